import Derived.Test.YtkcilagjhieapaaGreatDoorProg
import Derived.WalkKit
import Derived.LaidEql
import Derived.Stop.Asserts
import Derived.RowKitTokens
import Derived.Test.YtkcilagjhieapaaGreatDoorC13
section
namespace Go.Proofs.YtkcilagjhieapaaGreatDoor
open Go.RowKit Go.Extern.Stop Go.Stop Go.Extern
theorem as_nil (t : Value) (w : World) :
  Calls Tryz.prog 70 #[.nilIface, t] w fun e w' => e = .returned (.bool false) ∧ w' = w := by
 go_enter Tryz.func70, Tryz.ntmps70
 go_wp2
 go_ret
 exact ⟨rfl, rfl⟩
theorem Tz.valueOfP (t : Addr) (w : World) : (ReflectliteValue.unpack (.iface 119 (.pointer (some t)))).run Tryz.prog w
  = .ok (.agg #[.pointer (some ⟨1, 119, none⟩), .pointer (some ⟨w.heap.size, 0, none⟩), .int .u64 150]) (w.alloc (.cells #[.pointer (some t)] 119)) := by kernel_rfl
theorem Tz.typeP (a : Addr) (w : World) : (ReflectliteValue.methodAny (ReflectliteValue.valueError "reflectlite.Value.Type" 0) (fun t _ _ _ => ReflectliteType.toType t) #[.agg #[.pointer (some ⟨1, 119, none⟩), .pointer (some a), .int .u64 150]]).run Tryz.prog w
  = .ok (.iface 200 (.agg #[.pointer (some ⟨1, 119, none⟩)])) w := by kernel_rfl
theorem Tz.methodKind (h : Value) (w : World) : (Go.method 352 200 (.agg #[h]) "Kind").run Tryz.prog w = .ok (168, h) w := by kernel_rfl
theorem Tz.kindP (w : World) : ((ReflectliteType.abiMethod fun t => (fun a : Nat => Value.int IntKind.u8 (a : Int)) <$> Rtype.kind t) #[.pointer (some ⟨1, 119, none⟩)]).run Tryz.prog w = .ok (.int .u8 22) w := by kernel_rfl
theorem Tz.kindR (w : World) : ((ReflectliteType.abiMethod fun t => (fun a : Nat => Value.int IntKind.u8 (a : Int)) <$> Rtype.kind t) #[.pointer (some ⟨1, 113, none⟩)]).run Tryz.prog w = .ok (.int .u8 25) w := by kernel_rfl
theorem rlm (z : Sem Value) (f : TypeId → Addr → Nat → Nat → Sem Value) (v : Value) :
  ReflectliteValue.method z f #[v] = (do match ← ReflectliteValue.parts v with | none => z | some (t, a, fl) => f t a fl (fl % 32)) := rfl
theorem Tz.partsP (a : Addr) (w : World) : (ReflectliteValue.parts (.agg #[.pointer (some ⟨1, 119, none⟩), .pointer (some a), .int .u64 150])).run Tryz.prog w = .ok (some (119, a, 150)) w := by kernel_rfl
theorem Tz.isNilP (a p : Addr) (W : World) (ha : W.cell? a = some (.pointer (some p))) :
  (ReflectliteValue.method (ReflectliteValue.valueError "reflectlite.Value.IsNil" 0) ReflectliteValue.isNil #[.agg #[.pointer (some ⟨1, 119, none⟩), .pointer (some a), .int .u64 150]]).run Tryz.prog W = .ok (.bool false) W := by
 rw [rlm]
 simp only [Sem.run_bind, Tz.partsP, Result.andThen]
 simp [ReflectliteValue.isNil, loadVar, isAgg, underlying, Tryz.underlying119, ha, Result.andThen]
theorem Tz.methodElem (h : Value) (w : World) : (Go.method 352 200 (.agg #[h]) "Elem").run Tryz.prog w = .ok (179, .agg #[h]) w := by kernel_rfl
theorem Tz.methodImplements (h : Value) (w : World) : (Go.method 352 200 (.agg #[h]) "Implements").run Tryz.prog w = .ok (180, .agg #[h]) w := by kernel_rfl
theorem Tz.methodAssignableTo (h : Value) (w : World) : (Go.method 352 200 (.agg #[h]) "AssignableTo").run Tryz.prog w = .ok (177, .agg #[h]) w := by kernel_rfl
theorem Tz.elemP (w : World) : (ReflectliteType.method ReflectliteType.elem #[.agg #[.pointer (some ⟨1, 119, none⟩)]]).run Tryz.prog w = .ok (.iface 200 (.agg #[.pointer (some ⟨1, 113, none⟩)])) w := by kernel_rfl
theorem Tz.implementsR (w : World) : (ReflectliteType.relation "Implements" ReflectliteType.implements_ #[.agg #[.pointer (some ⟨1, 113, none⟩)], .iface 200 (.agg #[.pointer (some ⟨1, 72, none⟩)])]).run Tryz.prog w = .ok (.bool true) w := by kernel_rfl
theorem Tz.typeOfR (v : Value) (w : World) : (ReflectliteType.typeOf #[.iface 113 v]).run Tryz.prog w = .ok (.iface 200 (.agg #[.pointer (some ⟨1, 113, none⟩)])) w := by kernel_rfl
theorem Tz.assignableR (w : World) : (ReflectliteType.relation "AssignableTo" ReflectliteType.assignableTo #[.agg #[.pointer (some ⟨1, 113, none⟩)], .iface 200 (.agg #[.pointer (some ⟨1, 113, none⟩)])]).run Tryz.prog w = .ok (.bool true) w := by kernel_rfl
theorem Tz.valueOfR (e : Int) (w : World) : (ReflectliteValue.unpack (.iface 113 (.agg #[.int .i64 e]))).run Tryz.prog w
  = .ok (.agg #[.pointer (some ⟨1, 113, none⟩), .pointer (some ⟨w.heap.size, 0, none⟩), .int .u64 153]) (w.alloc (.cells #[.int .i64 e] 113)) := by kernel_rfl
theorem Tz.elemOfP (w : World) : (Rtype.elem? 119).run Tryz.prog w = .ok (some 113) w := by kernel_rfl
theorem Tz.mkR (p : Addr) (w : World) : (ReflectliteValue.mk 113 p ReflectliteValue.flagAddr).run Tryz.prog w = .ok (.agg #[.pointer (some ⟨1, 113, none⟩), .pointer (some p), .int .u64 409]) w := by kernel_rfl
theorem Tz.elemVP (a p : Addr) (W : World) (ha : W.cell? a = some (.pointer (some p))) :
  (ReflectliteValue.method (ReflectliteValue.valueError "reflectlite.Value.Elem" 0) ReflectliteValue.elem #[.agg #[.pointer (some ⟨1, 119, none⟩), .pointer (some a), .int .u64 150]]).run Tryz.prog W
   = .ok (.agg #[.pointer (some ⟨1, 113, none⟩), .pointer (some p), .int .u64 409]) W := by
 rw [rlm]
 simp only [Sem.run_bind, Tz.partsP, Result.andThen]
 simp [ReflectliteValue.elem, loadVar, isAgg, underlying, Tryz.underlying119, ha, Result.andThen, Tz.elemOfP, Tz.mkR]
theorem rls (v x : Value) : ReflectliteValue.set #[v, x] = (do
  let (some (dst, a, fl), some (src, b, _)) := (← ReflectliteValue.parts v, ← ReflectliteValue.parts x)
   | unsupported (.noEntry "extern/(internal/reflectlite.Value).Set.zeroValue")
  if fl / ReflectliteValue.flagAddr % 2 == 0 then unsupported (.noEntry "extern/(internal/reflectlite.Value).Set.unaddressable")
  let val ← loadVar src b
  if ← Rtype.directlyAssignable dst src then storeVar dst a val
  else if ← Rtype.implements dst src then
   if (← Rtype.kind src) == 20 then
    match val with
    | .nilIface => unsupported (.noEntry "extern/reflectlite: a nil value of one interface type handed on as a value of another")
    | _ => storeVar dst a val
   else storeVar dst a (.iface src val)
  else panicString ("reflectlite.Set: value of type " ++ (← Rtype.spelt src) ++ " is not assignable to type " ++ (← Rtype.spelt dst))
  pure (.tuple #[])) := rfl
theorem Tz.partsRa (a : Addr) (w : World) : (ReflectliteValue.parts (.agg #[.pointer (some ⟨1, 113, none⟩), .pointer (some a), .int .u64 409])).run Tryz.prog w = .ok (some (113, a, 409)) w := by kernel_rfl
theorem Tz.partsR (a : Addr) (w : World) : (ReflectliteValue.parts (.agg #[.pointer (some ⟨1, 113, none⟩), .pointer (some a), .int .u64 153])).run Tryz.prog w = .ok (some (113, a, 153)) w := by kernel_rfl
theorem Tz.directR (w : World) : (Rtype.directlyAssignable 113 113).run Tryz.prog w = .ok true w := by kernel_rfl
theorem Tz.sizeR (w : World) : (sizeOf 113).run Tryz.prog w = .ok 1 w := by kernel_rfl
theorem Tz.aggR (w : World) : (isAgg 113).run Tryz.prog w = .ok true w := by kernel_rfl
theorem Tz.loadR (b : Addr) (e : Int) (W : World) (hb : W.cell? b = some (.int .i64 e)) (hbs : b.spot = none) : (loadVar 113 b).run Tryz.prog W = .ok (.agg #[.int .i64 e]) W := by
 simp [loadVar, Tz.aggR, Tz.sizeR, Result.andThen, loadCells, loadCellsFrom, Addr.add, hb]
theorem Tz.storeR (ta : Addr) (e : Int) (old : Value) (W : World) (ht : W.cell? ta = some old) (hf : W.frozen? ta = false) : (storeVar 113 ta (.agg #[.int .i64 e])).run Tryz.prog W = .ok () (W.setCell ta (.int .i64 e)) := by
 simp [storeVar, Value.cells, storeCells, Addr.add, Tz.sizeR, Result.andThen]
 rw [run_store Tryz.prog W ta _ _ (by rfl)]
 simp [ht, hf]
theorem Tz.setR (ta b : Addr) (e : Int) (old : Value) (W : World) (hb : W.cell? b = some (.int .i64 e)) (hbs : b.spot = none) (ht : W.cell? ta = some old) (hf : W.frozen? ta = false) :
  (ReflectliteValue.set #[.agg #[.pointer (some ⟨1, 113, none⟩), .pointer (some ta), .int .u64 409], .agg #[.pointer (some ⟨1, 113, none⟩), .pointer (some b), .int .u64 153]]).run Tryz.prog W
   = .ok (.tuple #[]) (W.setCell ta (.int .i64 e)) := by
 rw [rls]
 simp only [Sem.run_bind, Tz.partsRa, Tz.partsR, Result.andThen]
 simp [ReflectliteValue.flagAddr, Result.andThen, Tz.directR, Tz.loadR b e W hb hbs, Tz.storeR ta e old W ht hf]
noncomputable def hitW (w : World) (t : Addr) (e : Int) : World := ((((w.alloc (.cells #[.pointer (some t)] 119)).alloc (.cells #[.pointer (some ⟨1, 119, none⟩), .pointer (some ⟨w.heap.size, 0, none⟩), .int .u64 150] 167)).alloc (.cells #[.pointer (some ⟨1, 119, none⟩), .pointer (some ⟨w.heap.size, 0, none⟩), .int .u64 150] 167)).alloc (.cells #[.int .i64 e] 113)).setCell t (.int .i64 e)
set_option maxHeartbeats 4000000 in
theorem as_hit (e : Int) (t : Addr) (old : Value) (w : World) (hg : w.cell? ⟨0, 0, none⟩ = some (.iface 200 (.agg #[.pointer (some ⟨1, 72, none⟩)]))) (ht0 : w.cell? t = some old) (hf0 : w.frozen? t = false) :
  Calls Tryz.prog 70 #[.iface 113 (.agg #[.int .i64 e]), .iface 119 (.pointer (some t))] w fun ev w' => ev = .returned (.bool true) ∧ w' = hitW w t e := by
 have h6 := @run_callFunc_extern Tryz.prog 113 _ (fun args => ReflectliteValue.unpack (args.getD 0 (.tuple #[]))) Tryz.func113 (by kernel_rfl) (by kernel_rfl) (by kernel_rfl) (by kernel_rfl)
 have h7 := @run_callFunc_extern Tryz.prog 114 _ (ReflectliteValue.methodAny (ReflectliteValue.valueError "reflectlite.Value.Type" 0) (fun t _ _ _ => ReflectliteType.toType t)) Tryz.func114 (by kernel_rfl) (by kernel_rfl) (by kernel_rfl) (by kernel_rfl)
 have h8 := @run_callFunc_extern Tryz.prog 115 _ (ReflectliteValue.method (ReflectliteValue.valueError "reflectlite.Value.IsNil" 0) ReflectliteValue.isNil) Tryz.func115 (by kernel_rfl) (by kernel_rfl) (by kernel_rfl) (by kernel_rfl)
 have h27 := @run_callFunc_extern Tryz.prog 168 _ (ReflectliteType.abiMethod fun t => do pure (.int .u8 (← Rtype.kind t))) Tryz.func168 (by kernel_rfl) (by kernel_rfl) (by kernel_rfl) (by kernel_rfl)
 have h37 := @run_callFunc_extern Tryz.prog 179 _ (ReflectliteType.method ReflectliteType.elem) Tryz.func179 (by kernel_rfl) (by kernel_rfl) (by kernel_rfl) (by kernel_rfl)
 have h38 := @run_callFunc_extern Tryz.prog 180 _ (ReflectliteType.relation "Implements" ReflectliteType.implements_) Tryz.func180 (by kernel_rfl) (by kernel_rfl) (by kernel_rfl) (by kernel_rfl)
 have h10 := @run_callFunc_extern Tryz.prog 141 _ ReflectliteType.typeOf Tryz.func141 (by kernel_rfl) (by kernel_rfl) (by kernel_rfl) (by kernel_rfl)
 have h35 := @run_callFunc_extern Tryz.prog 177 _ (ReflectliteType.relation "AssignableTo" ReflectliteType.assignableTo) Tryz.func177 (by kernel_rfl) (by kernel_rfl) (by kernel_rfl) (by kernel_rfl)
 have h11 := @run_callFunc_extern Tryz.prog 142 _ (ReflectliteValue.method (ReflectliteValue.valueError "reflectlite.Value.Elem" 0) ReflectliteValue.elem) Tryz.func142 (by kernel_rfl) (by kernel_rfl) (by kernel_rfl) (by kernel_rfl)
 have h12 := @run_callFunc_extern Tryz.prog 143 _ ReflectliteValue.set Tryz.func143 (by kernel_rfl) (by kernel_rfl) (by kernel_rfl) (by kernel_rfl)
 have tO := Tz.typeOfR
 have mA := Tz.methodAssignableTo
 have a25 := Tz.assignableR
 have v25 := Tz.valueOfR
 have f6 := Tz.valueOfP
 have f7 := Tz.typeP
 have mK := Tz.methodKind
 have mE := Tz.methodElem
 have mI := Tz.methodImplements
 have k27 := Tz.kindP
 have k25 := Tz.kindR
 have e27 := Tz.elemP
 have i25 := Tz.implementsR
 have n8 := Tz.isNilP ⟨w.heap.size, 0, none⟩ t ((w.alloc (.cells #[.pointer (some t)] 119)).alloc (.cells #[.pointer (some ⟨1, 119, none⟩), .pointer (some ⟨w.heap.size, 0, none⟩), .int .u64 150] 167)) (by simp)
 have hlt : 0 < w.heap.size := by
  rcases Nat.eq_zero_or_pos w.heap.size with h0 | h
  ·simp [World.cell?, h0] at hg
  ·exact h
 have hg2 : ((w.alloc (.cells #[.pointer (some t)] 119)).alloc (.cells #[.pointer (some ⟨1, 119, none⟩), .pointer (some ⟨w.heap.size, 0, none⟩), .int .u64 150] 167)).cell? ⟨0, 0, none⟩ = some (.iface 200 (.agg #[.pointer (some ⟨1, 72, none⟩)])) := by
  rw [World.cell?_alloc_lt _ _ ⟨0, 0, none⟩ (by simp), World.cell?_alloc_lt _ _ ⟨0, 0, none⟩ hlt]; exact hg
 have htl : t.block < w.heap.size := by
  rcases Nat.lt_or_ge t.block w.heap.size with h | h
  ·exact h
  ·simp [World.cell?, Array.getElem?_eq_none h] at ht0
 have el := Tz.elemVP ⟨w.heap.size, 0, none⟩ t (((w.alloc (.cells #[.pointer (some t)] 119)).alloc (.cells #[.pointer (some ⟨1, 119, none⟩), .pointer (some ⟨w.heap.size, 0, none⟩), .int .u64 150] 167)).alloc (.cells #[.pointer (some ⟨1, 119, none⟩), .pointer (some ⟨w.heap.size, 0, none⟩), .int .u64 150] 167)) (by rw [World.cell?_alloc_lt _ _ ⟨w.heap.size, 0, none⟩ (by simp; omega)]; simp)
 have st := Tz.setR t ⟨w.heap.size + 1 + 1 + 1, 0, none⟩ e old ((((w.alloc (.cells #[.pointer (some t)] 119)).alloc (.cells #[.pointer (some ⟨1, 119, none⟩), .pointer (some ⟨w.heap.size, 0, none⟩), .int .u64 150] 167)).alloc (.cells #[.pointer (some ⟨1, 119, none⟩), .pointer (some ⟨w.heap.size, 0, none⟩), .int .u64 150] 167)).alloc (.cells #[.int .i64 e] 113))
  (by rw [World.cell?_alloc_at _ _ _ _ (by simp)]; rfl) rfl
  (by rw [World.cell?_alloc_lt _ _ t (by simp; omega), World.cell?_alloc_lt _ _ t (by simp; omega), World.cell?_alloc_lt _ _ t (by simp; omega), World.cell?_alloc_lt _ _ t htl]; exact ht0)
  (by rw [World.frozen?_alloc_old _ _ t (by simp; omega), World.frozen?_alloc_old _ _ t (by simp; omega), World.frozen?_alloc_old _ _ t (by simp; omega), World.frozen?_alloc_old _ _ t (Nat.ne_of_lt htl)]; exact hf0)
 go_enter Tryz.func70, Tryz.ntmps70
 go_wp2
 refine wp_loop_rounds 1 ?_
 rw [rounds_succ]
 go_wp2
 go_ret
 exact ⟨rfl, rfl⟩
end Go.Proofs.YtkcilagjhieapaaGreatDoor
end
section
set_option linter.unusedVariables false
set_option linter.unusedSimpArgs false
namespace Go.Proofs.YtkcilagjhieapaaGreatDoor
open Go Go.RowKit Go.Extern.Stop Go.Stop Go.Extern
theorem as_hit' (e : Int) (w : World) (hg : w.cell? ⟨0, 0, none⟩ = some (.iface 200 (.agg #[.pointer (some ⟨1, 72, none⟩)]))) (v0 : Value) :
  Calls Tryz.prog 70 #[.iface 113 (.agg #[.int .i64 e]), .iface 119 (.pointer (some ⟨w.heap.size, 0, none⟩))] (w.alloc (.cells #[v0] 113)) fun ev w' => ev = .returned (.bool true) ∧ w'.cell? ⟨w.heap.size, 0, none⟩ = some (.int .i64 e) ∧ Below w.heap.size w w' := by
 have hlt : 0 < w.heap.size := by
  rcases Nat.eq_zero_or_pos w.heap.size with h0 | h
  ·simp [World.cell?, h0] at hg
  ·exact h
 refine (as_hit e ⟨w.heap.size, 0, none⟩ v0 (w.alloc (.cells #[v0] 113)) (by rw [World.cell?_alloc_lt _ _ ⟨0, 0, none⟩ hlt]; exact hg) (by simp) (by simp)).mono ?_
 rintro ev w' ⟨rfl, rfl⟩
 refine ⟨rfl, ?_, ?_⟩
 ·unfold hitW
  refine World.cell?_setCell_same (u := v0) _ _ _ ?_
  rw [World.cell?_alloc_lt _ _ ⟨w.heap.size, 0, none⟩ (by simp; omega), World.cell?_alloc_lt _ _ ⟨w.heap.size, 0, none⟩ (by simp; omega), World.cell?_alloc_lt _ _ ⟨w.heap.size, 0, none⟩ (by simp; omega), World.cell?_alloc_lt _ _ ⟨w.heap.size, 0, none⟩ (by simp)]
  simp
 ·unfold hitW
  exact (((((((Below.refl _ w).alloc (Nat.le_refl _) _).alloc (by simp) _).alloc (by simp; omega) _).alloc (by simp; omega) _).alloc (by simp; omega) _)).setCell (by simp) _
theorem why_nil (w : World) : Calls Tryz.prog 29 #[.nilIface] w fun e w' => e = .returned (.int .i64 0) ∧ Below w.heap.size w w' := by
 go_enter Tryz.func29, Tryz.ntmps29
 go_wp2_with (first | (go_at_call 70; refine (as_nil _ _).mono ?_; rintro e w' ⟨rfl, rfl⟩))
 go_ret
 exact ⟨rfl, (Below.refl _ w).alloc (Nat.le_refl _) _⟩
theorem why_hit (n : Int) (w : World) (hg : w.cell? ⟨0, 0, none⟩ = some (.iface 200 (.agg #[.pointer (some ⟨1, 72, none⟩)]))) : Calls Tryz.prog 29 #[.iface 113 (.agg #[.int .i64 n])] w fun e w' => e = .returned (.int .i64 n) ∧ Below w.heap.size w w' := by
 go_enter Tryz.func29, Tryz.ntmps29
 go_wp2_with (first | (go_at_call 70; refine (as_hit' n w hg _).mono ?_; rintro e w' ⟨rfl, hc, hb⟩))
 go_ret
 exact ⟨rfl, hb⟩
end Go.Proofs.YtkcilagjhieapaaGreatDoor
namespace Go.Av.G
open Go Go.Av Go.Proofs
theorem why_contract {e : Option Int} {r : Int} (h : r = e.getD 0) : Contract Tryz.prog 29 [.pv (eErr 113 e)] [] ⟨.pv (.int .i64 r), [], []⟩ := by
 subst h
 refine ⟨⟨Tryz.f29, Tryz.func29, by kernel_rfl, by kernel_rfl⟩, fun w vs γ ok h1 hG h2 h3 h4 h5 => ?_⟩
 match vs, h4 with
 | [v], _ =>
  have hv := slies_pv (h5 0 _ _ rfl rfl)
  cases e with
  | none =>
   obtain rfl : v = .nilIface := by cases hv; rfl
   refine (Go.Proofs.YtkcilagjhieapaaGreatDoor.why_nil w).mono ?_
   rintro e w' ⟨rfl, hb⟩
   exact ⟨_, fun _ => ⟨none, 0⟩, rfl, after_of_below hb (.pv _ _ (.int _ _))⟩
  | some n =>
   obtain rfl : v = .iface 113 (.agg #[.int .i64 n]) := by
    cases hv with
    | iface _ _ u hu =>
     cases hu with
     | agg _ us hl _ hj =>
      match us, hl, hj with
      | [u], _, hj =>
       have := lies_int (hj 0 _ _ rfl rfl)
       subst this; rfl
   refine (Go.Proofs.YtkcilagjhieapaaGreatDoor.why_hit n w hG.2).mono ?_
   rintro e w' ⟨rfl, hb⟩
   exact ⟨_, fun _ => ⟨none, 0⟩, rfl, after_of_below hb (.pv _ _ (.int _ _))⟩
end Go.Av.G
end
section
set_option linter.unusedVariables false
set_option linter.unusedSimpArgs false
set_option maxRecDepth 100000
set_option maxHeartbeats 8000000
namespace Go.Av.G
open Go Go.Av Go.Proofs
structure T_api_Customer where
 f_ID : Int
 f_Name : List UInt8
 f_Kind : Int
 deriving DecidableEq, Inhabited
def T_api_Customer.pv (x : T_api_Customer) : PV := .agg [.int .i64 x.f_ID, .str x.f_Name, .int .i64 x.f_Kind]
theorem T_api_Customer.pv_inj (x y : T_api_Customer) : x.pv = y.pv ↔ x = y := by
 constructor
 ·intro h; rcases x with ⟨_, _, _⟩; rcases y with ⟨_, _, _⟩; simp [T_api_Customer.pv, eInt_maps, eBool_maps, eStr_maps] at h; simp [h]
 ·rintro rfl; rfl
theorem T_api_Customer.pv_maps (l m : List T_api_Customer) : l.map T_api_Customer.pv = m.map T_api_Customer.pv ↔ l = m := List.map_inj_right (fun x y h => (T_api_Customer.pv_inj x y).1 h)
def T_api_Customer.same (x y : T_api_Customer) : Bool := ((x.f_ID == y.f_ID) && ((x.f_Name == y.f_Name) && ((x.f_Kind == y.f_Kind) && true)))
def T_api_Customer.tt : TT := .struct (.field (.int .i64) (.field .str (.field (.int .i64) .unit)))
def T_api_Customer.wf (x : T_api_Customer) : Prop := inR .i64 x.f_ID ∧ x.f_Name.length ≤ maxLen ∧ inR .i64 x.f_Kind
theorem T_api_Customer.of {xs : List PV} (hh : T_api_Customer.tt.Of xs) : ∃ x : T_api_Customer, x.wf ∧ T_api_Customer.tt.pack xs = T_api_Customer.pv x := by
 obtain ⟨a0, b0, rfl, h0, hh⟩ := hh
 obtain ⟨a1, b1, rfl, h1, hh⟩ := hh
 obtain ⟨a2, b2, rfl, h2, hh⟩ := hh
 obtain rfl : _ = [] := hh
 obtain ⟨n0, rfl, w0⟩ := h0
 obtain ⟨n1, rfl, w1⟩ := h1
 obtain ⟨n2, rfl, w2⟩ := h2
 exact ⟨⟨n0, n1, n2⟩, ⟨w0, w1, w2⟩, rfl⟩
structure T_api_Record where
 f_Acc : Int
 f_Kind : Int
 f_Cur : Int
 f_Customer : Int
 f_Product : Int
 f_Partition : Int
 f_From : Int
 f_To : Int
 deriving DecidableEq, Inhabited
def T_api_Record.pv (x : T_api_Record) : PV := .agg [.int .i64 x.f_Acc, .int .i64 x.f_Kind, .int .i64 x.f_Cur, .int .i64 x.f_Customer, .int .i64 x.f_Product, .int .i64 x.f_Partition, .int .i32 x.f_From, .int .i32 x.f_To]
theorem T_api_Record.pv_inj (x y : T_api_Record) : x.pv = y.pv ↔ x = y := by
 constructor
 ·intro h; rcases x with ⟨_, _, _, _, _, _, _, _⟩; rcases y with ⟨_, _, _, _, _, _, _, _⟩; simp [T_api_Record.pv, eInt_maps, eBool_maps, eStr_maps, T_api_Customer.pv_maps] at h; simp [h]
 ·rintro rfl; rfl
theorem T_api_Record.pv_maps (l m : List T_api_Record) : l.map T_api_Record.pv = m.map T_api_Record.pv ↔ l = m := List.map_inj_right (fun x y h => (T_api_Record.pv_inj x y).1 h)
def T_api_Record.same (x y : T_api_Record) : Bool := ((x.f_Acc == y.f_Acc) && ((x.f_Kind == y.f_Kind) && ((x.f_Cur == y.f_Cur) && ((x.f_Customer == y.f_Customer) && ((x.f_Product == y.f_Product) && ((x.f_Partition == y.f_Partition) && ((x.f_From == y.f_From) && ((x.f_To == y.f_To) && true))))))))
def T_api_Record.tt : TT := .struct (.field (.int .i64) (.field (.int .i64) (.field (.int .i64) (.field (.int .i64) (.field (.int .i64) (.field (.int .i64) (.field (.int .i32) (.field (.int .i32) .unit))))))))
def T_api_Record.wf (x : T_api_Record) : Prop := inR .i64 x.f_Acc ∧ inR .i64 x.f_Kind ∧ inR .i64 x.f_Cur ∧ inR .i64 x.f_Customer ∧ inR .i64 x.f_Product ∧ inR .i64 x.f_Partition ∧ inR .i32 x.f_From ∧ inR .i32 x.f_To
theorem T_api_Record.of {xs : List PV} (hh : T_api_Record.tt.Of xs) : ∃ x : T_api_Record, x.wf ∧ T_api_Record.tt.pack xs = T_api_Record.pv x := by
 obtain ⟨a0, b0, rfl, h0, hh⟩ := hh
 obtain ⟨a1, b1, rfl, h1, hh⟩ := hh
 obtain ⟨a2, b2, rfl, h2, hh⟩ := hh
 obtain ⟨a3, b3, rfl, h3, hh⟩ := hh
 obtain ⟨a4, b4, rfl, h4, hh⟩ := hh
 obtain ⟨a5, b5, rfl, h5, hh⟩ := hh
 obtain ⟨a6, b6, rfl, h6, hh⟩ := hh
 obtain ⟨a7, b7, rfl, h7, hh⟩ := hh
 obtain rfl : _ = [] := hh
 obtain ⟨n0, rfl, w0⟩ := h0
 obtain ⟨n1, rfl, w1⟩ := h1
 obtain ⟨n2, rfl, w2⟩ := h2
 obtain ⟨n3, rfl, w3⟩ := h3
 obtain ⟨n4, rfl, w4⟩ := h4
 obtain ⟨n5, rfl, w5⟩ := h5
 obtain ⟨n6, rfl, w6⟩ := h6
 obtain ⟨n7, rfl, w7⟩ := h7
 exact ⟨⟨n0, n1, n2, n3, n4, n5, n6, n7⟩, ⟨w0, w1, w2, w3, w4, w5, w6, w7⟩, rfl⟩
structure T_api_Chart where
 f_Customers : List T_api_Customer
 f_Records : List T_api_Record
 deriving DecidableEq, Inhabited
def T_api_Chart.pv (x : T_api_Chart) : PV := .agg [.slice (List.map T_api_Customer.pv x.f_Customers), .slice (List.map T_api_Record.pv x.f_Records)]
theorem T_api_Chart.pv_inj (x y : T_api_Chart) : x.pv = y.pv ↔ x = y := by
 constructor
 ·intro h; rcases x with ⟨_, _⟩; rcases y with ⟨_, _⟩; simp [T_api_Chart.pv, eInt_maps, eBool_maps, eStr_maps, T_api_Customer.pv_maps, T_api_Record.pv_maps] at h; simp [h]
 ·rintro rfl; rfl
theorem T_api_Chart.pv_maps (l m : List T_api_Chart) : l.map T_api_Chart.pv = m.map T_api_Chart.pv ↔ l = m := List.map_inj_right (fun x y h => (T_api_Chart.pv_inj x y).1 h)
def T_api_Chart.tt : TT := .struct (.field (.slice T_api_Customer.tt) (.field (.slice T_api_Record.tt) .unit))
def T_api_Chart.wf (x : T_api_Chart) : Prop := (x.f_Customers.length ≤ maxLen ∧ ∀ x' ∈ x.f_Customers, T_api_Customer.wf x') ∧ (x.f_Records.length ≤ maxLen ∧ ∀ x' ∈ x.f_Records, T_api_Record.wf x')
theorem T_api_Chart.of {xs : List PV} (hh : T_api_Chart.tt.Of xs) : ∃ x : T_api_Chart, x.wf ∧ T_api_Chart.tt.pack xs = T_api_Chart.pv x := by
 obtain ⟨a0, b0, rfl, h0, hh⟩ := hh
 obtain ⟨a1, b1, rfl, h1, hh⟩ := hh
 obtain rfl : _ = [] := hh
 obtain ⟨n0, w0, rfl⟩ := of_slice (f := T_api_Customer.pv) (wf := T_api_Customer.wf) (fun xs h => T_api_Customer.of h) h0
 obtain ⟨n1, w1, rfl⟩ := of_slice (f := T_api_Record.pv) (wf := T_api_Record.wf) (fun xs h => T_api_Record.of h) h1
 exact ⟨⟨n0, n1⟩, ⟨w0, w1⟩, rfl⟩
structure T_api_Money where
 f_Cur : Int
 f_Minor : Int
 deriving DecidableEq, Inhabited
def T_api_Money.pv (x : T_api_Money) : PV := .agg [.int .i64 x.f_Cur, .int .i64 x.f_Minor]
theorem T_api_Money.pv_inj (x y : T_api_Money) : x.pv = y.pv ↔ x = y := by
 constructor
 ·intro h; rcases x with ⟨_, _⟩; rcases y with ⟨_, _⟩; simp [T_api_Money.pv, eInt_maps, eBool_maps, eStr_maps, T_api_Customer.pv_maps, T_api_Record.pv_maps, T_api_Chart.pv_maps] at h; simp [h]
 ·rintro rfl; rfl
theorem T_api_Money.pv_maps (l m : List T_api_Money) : l.map T_api_Money.pv = m.map T_api_Money.pv ↔ l = m := List.map_inj_right (fun x y h => (T_api_Money.pv_inj x y).1 h)
def T_api_Money.same (x y : T_api_Money) : Bool := ((x.f_Cur == y.f_Cur) && ((x.f_Minor == y.f_Minor) && true))
def T_api_Money.tt : TT := .struct (.field (.int .i64) (.field (.int .i64) .unit))
def T_api_Money.wf (x : T_api_Money) : Prop := inR .i64 x.f_Cur ∧ inR .i64 x.f_Minor
theorem T_api_Money.of {xs : List PV} (hh : T_api_Money.tt.Of xs) : ∃ x : T_api_Money, x.wf ∧ T_api_Money.tt.pack xs = T_api_Money.pv x := by
 obtain ⟨a0, b0, rfl, h0, hh⟩ := hh
 obtain ⟨a1, b1, rfl, h1, hh⟩ := hh
 obtain rfl : _ = [] := hh
 obtain ⟨n0, rfl, w0⟩ := h0
 obtain ⟨n1, rfl, w1⟩ := h1
 exact ⟨⟨n0, n1⟩, ⟨w0, w1⟩, rfl⟩
structure T_api_Leg where
 f_Acc : Int
 f_Amount : T_api_Money
 deriving DecidableEq, Inhabited
def T_api_Leg.pv (x : T_api_Leg) : PV := .agg [.int .i64 x.f_Acc, .int .i64 x.f_Amount.f_Cur, .int .i64 x.f_Amount.f_Minor]
theorem T_api_Leg.pv_inj (x y : T_api_Leg) : x.pv = y.pv ↔ x = y := by
 constructor
 ·intro h; rcases x with ⟨_, ⟨_, _⟩⟩; rcases y with ⟨_, ⟨_, _⟩⟩; simp [T_api_Leg.pv, eInt_maps, eBool_maps, eStr_maps, T_api_Customer.pv_maps, T_api_Record.pv_maps, T_api_Chart.pv_maps, T_api_Money.pv_maps] at h; simp [h]
 ·rintro rfl; rfl
theorem T_api_Leg.pv_maps (l m : List T_api_Leg) : l.map T_api_Leg.pv = m.map T_api_Leg.pv ↔ l = m := List.map_inj_right (fun x y h => (T_api_Leg.pv_inj x y).1 h)
def T_api_Leg.same (x y : T_api_Leg) : Bool := ((x.f_Acc == y.f_Acc) && ((x.f_Amount.f_Cur == y.f_Amount.f_Cur) && ((x.f_Amount.f_Minor == y.f_Amount.f_Minor) && true)))
def T_api_Leg.tt : TT := .struct (.field (.int .i64) (.field T_api_Money.tt .unit))
def T_api_Leg.wf (x : T_api_Leg) : Prop := inR .i64 x.f_Acc ∧ T_api_Money.wf x.f_Amount
theorem T_api_Leg.of {xs : List PV} (hh : T_api_Leg.tt.Of xs) : ∃ x : T_api_Leg, x.wf ∧ T_api_Leg.tt.pack xs = T_api_Leg.pv x := by
 obtain ⟨a0, b0, rfl, h0, hh⟩ := hh
 obtain ⟨a1, b1, rfl, h1, hh⟩ := hh
 obtain rfl : _ = [] := hh
 obtain ⟨n0, rfl, w0⟩ := h0
 obtain ⟨n1, w1, e1⟩ := T_api_Money.of h1
 obtain rfl := PV.agg.inj e1
 exact ⟨⟨n0, n1⟩, ⟨w0, w1⟩, rfl⟩
structure T_api_Posting where
 f_ID : Int
 f_Known : Int
 f_Value : Int
 f_Legs : List T_api_Leg
 f_Reverses : Int
 f_Kind : Int
 f_Memo : List UInt8
 deriving DecidableEq, Inhabited
def T_api_Posting.pv (x : T_api_Posting) : PV := .agg [.int .i64 x.f_ID, .int .i32 x.f_Known, .int .i32 x.f_Value, .slice (List.map T_api_Leg.pv x.f_Legs), .int .i64 x.f_Reverses, .int .i64 x.f_Kind, .str x.f_Memo]
theorem T_api_Posting.pv_inj (x y : T_api_Posting) : x.pv = y.pv ↔ x = y := by
 constructor
 ·intro h; rcases x with ⟨_, _, _, _, _, _, _⟩; rcases y with ⟨_, _, _, _, _, _, _⟩; simp [T_api_Posting.pv, eInt_maps, eBool_maps, eStr_maps, T_api_Customer.pv_maps, T_api_Record.pv_maps, T_api_Chart.pv_maps, T_api_Money.pv_maps, T_api_Leg.pv_maps] at h; simp [h]
 ·rintro rfl; rfl
theorem T_api_Posting.pv_maps (l m : List T_api_Posting) : l.map T_api_Posting.pv = m.map T_api_Posting.pv ↔ l = m := List.map_inj_right (fun x y h => (T_api_Posting.pv_inj x y).1 h)
def T_api_Posting.tt : TT := .struct (.field (.int .i64) (.field (.int .i32) (.field (.int .i32) (.field (.slice T_api_Leg.tt) (.field (.int .i64) (.field (.int .i64) (.field .str .unit)))))))
def T_api_Posting.wf (x : T_api_Posting) : Prop := inR .i64 x.f_ID ∧ inR .i32 x.f_Known ∧ inR .i32 x.f_Value ∧ (x.f_Legs.length ≤ maxLen ∧ ∀ x' ∈ x.f_Legs, T_api_Leg.wf x') ∧ inR .i64 x.f_Reverses ∧ inR .i64 x.f_Kind ∧ x.f_Memo.length ≤ maxLen
theorem T_api_Posting.of {xs : List PV} (hh : T_api_Posting.tt.Of xs) : ∃ x : T_api_Posting, x.wf ∧ T_api_Posting.tt.pack xs = T_api_Posting.pv x := by
 obtain ⟨a0, b0, rfl, h0, hh⟩ := hh
 obtain ⟨a1, b1, rfl, h1, hh⟩ := hh
 obtain ⟨a2, b2, rfl, h2, hh⟩ := hh
 obtain ⟨a3, b3, rfl, h3, hh⟩ := hh
 obtain ⟨a4, b4, rfl, h4, hh⟩ := hh
 obtain ⟨a5, b5, rfl, h5, hh⟩ := hh
 obtain ⟨a6, b6, rfl, h6, hh⟩ := hh
 obtain rfl : _ = [] := hh
 obtain ⟨n0, rfl, w0⟩ := h0
 obtain ⟨n1, rfl, w1⟩ := h1
 obtain ⟨n2, rfl, w2⟩ := h2
 obtain ⟨n3, w3, rfl⟩ := of_slice (f := T_api_Leg.pv) (wf := T_api_Leg.wf) (fun xs h => T_api_Leg.of h) h3
 obtain ⟨n4, rfl, w4⟩ := h4
 obtain ⟨n5, rfl, w5⟩ := h5
 obtain ⟨n6, rfl, w6⟩ := h6
 exact ⟨⟨n0, n1, n2, n3, n4, n5, n6⟩, ⟨w0, w1, w2, w3, w4, w5, w6⟩, rfl⟩
structure T_api_Hold where
 f_ID : Int
 f_Acc : Int
 f_Amount : T_api_Money
 f_Rank : Int
 f_Made : Int
 f_Until : Int
 f_Taken : Int
 f_Done : Bool
 deriving DecidableEq, Inhabited
def T_api_Hold.pv (x : T_api_Hold) : PV := .agg [.int .i64 x.f_ID, .int .i64 x.f_Acc, .int .i64 x.f_Amount.f_Cur, .int .i64 x.f_Amount.f_Minor, .int .i64 x.f_Rank, .int .i32 x.f_Made, .int .i32 x.f_Until, .int .i64 x.f_Taken, .bool x.f_Done]
theorem T_api_Hold.pv_inj (x y : T_api_Hold) : x.pv = y.pv ↔ x = y := by
 constructor
 ·intro h; rcases x with ⟨_, _, ⟨_, _⟩, _, _, _, _, _⟩; rcases y with ⟨_, _, ⟨_, _⟩, _, _, _, _, _⟩; simp [T_api_Hold.pv, eInt_maps, eBool_maps, eStr_maps, T_api_Customer.pv_maps, T_api_Record.pv_maps, T_api_Chart.pv_maps, T_api_Money.pv_maps, T_api_Leg.pv_maps, T_api_Posting.pv_maps] at h; simp [h]
 ·rintro rfl; rfl
theorem T_api_Hold.pv_maps (l m : List T_api_Hold) : l.map T_api_Hold.pv = m.map T_api_Hold.pv ↔ l = m := List.map_inj_right (fun x y h => (T_api_Hold.pv_inj x y).1 h)
def T_api_Hold.same (x y : T_api_Hold) : Bool := ((x.f_ID == y.f_ID) && ((x.f_Acc == y.f_Acc) && ((x.f_Amount.f_Cur == y.f_Amount.f_Cur) && ((x.f_Amount.f_Minor == y.f_Amount.f_Minor) && ((x.f_Rank == y.f_Rank) && ((x.f_Made == y.f_Made) && ((x.f_Until == y.f_Until) && ((x.f_Taken == y.f_Taken) && ((x.f_Done == y.f_Done) && true)))))))))
def T_api_Hold.tt : TT := .struct (.field (.int .i64) (.field (.int .i64) (.field T_api_Money.tt (.field (.int .i64) (.field (.int .i32) (.field (.int .i32) (.field (.int .i64) (.field .bool .unit))))))))
def T_api_Hold.wf (x : T_api_Hold) : Prop := inR .i64 x.f_ID ∧ inR .i64 x.f_Acc ∧ T_api_Money.wf x.f_Amount ∧ inR .i64 x.f_Rank ∧ inR .i32 x.f_Made ∧ inR .i32 x.f_Until ∧ inR .i64 x.f_Taken ∧ True
theorem T_api_Hold.of {xs : List PV} (hh : T_api_Hold.tt.Of xs) : ∃ x : T_api_Hold, x.wf ∧ T_api_Hold.tt.pack xs = T_api_Hold.pv x := by
 obtain ⟨a0, b0, rfl, h0, hh⟩ := hh
 obtain ⟨a1, b1, rfl, h1, hh⟩ := hh
 obtain ⟨a2, b2, rfl, h2, hh⟩ := hh
 obtain ⟨a3, b3, rfl, h3, hh⟩ := hh
 obtain ⟨a4, b4, rfl, h4, hh⟩ := hh
 obtain ⟨a5, b5, rfl, h5, hh⟩ := hh
 obtain ⟨a6, b6, rfl, h6, hh⟩ := hh
 obtain ⟨a7, b7, rfl, h7, hh⟩ := hh
 obtain rfl : _ = [] := hh
 obtain ⟨n0, rfl, w0⟩ := h0
 obtain ⟨n1, rfl, w1⟩ := h1
 obtain ⟨n2, w2, e2⟩ := T_api_Money.of h2
 obtain rfl := PV.agg.inj e2
 obtain ⟨n3, rfl, w3⟩ := h3
 obtain ⟨n4, rfl, w4⟩ := h4
 obtain ⟨n5, rfl, w5⟩ := h5
 obtain ⟨n6, rfl, w6⟩ := h6
 obtain ⟨n7, rfl⟩ := h7
 exact ⟨⟨n0, n1, n2, n3, n4, n5, n6, n7⟩, ⟨w0, w1, w2, w3, w4, w5, w6, trivial⟩, rfl⟩
structure T_api_Limit where
 f_Acc : Int
 f_Minor : Int
 deriving DecidableEq, Inhabited
def T_api_Limit.pv (x : T_api_Limit) : PV := .agg [.int .i64 x.f_Acc, .int .i64 x.f_Minor]
theorem T_api_Limit.pv_inj (x y : T_api_Limit) : x.pv = y.pv ↔ x = y := by
 constructor
 ·intro h; rcases x with ⟨_, _⟩; rcases y with ⟨_, _⟩; simp [T_api_Limit.pv, eInt_maps, eBool_maps, eStr_maps, T_api_Customer.pv_maps, T_api_Record.pv_maps, T_api_Chart.pv_maps, T_api_Money.pv_maps, T_api_Leg.pv_maps, T_api_Posting.pv_maps, T_api_Hold.pv_maps] at h; simp [h]
 ·rintro rfl; rfl
theorem T_api_Limit.pv_maps (l m : List T_api_Limit) : l.map T_api_Limit.pv = m.map T_api_Limit.pv ↔ l = m := List.map_inj_right (fun x y h => (T_api_Limit.pv_inj x y).1 h)
def T_api_Limit.same (x y : T_api_Limit) : Bool := ((x.f_Acc == y.f_Acc) && ((x.f_Minor == y.f_Minor) && true))
def T_api_Limit.tt : TT := .struct (.field (.int .i64) (.field (.int .i64) .unit))
def T_api_Limit.wf (x : T_api_Limit) : Prop := inR .i64 x.f_Acc ∧ inR .i64 x.f_Minor
theorem T_api_Limit.of {xs : List PV} (hh : T_api_Limit.tt.Of xs) : ∃ x : T_api_Limit, x.wf ∧ T_api_Limit.tt.pack xs = T_api_Limit.pv x := by
 obtain ⟨a0, b0, rfl, h0, hh⟩ := hh
 obtain ⟨a1, b1, rfl, h1, hh⟩ := hh
 obtain rfl : _ = [] := hh
 obtain ⟨n0, rfl, w0⟩ := h0
 obtain ⟨n1, rfl, w1⟩ := h1
 exact ⟨⟨n0, n1⟩, ⟨w0, w1⟩, rfl⟩
structure T_api_Till where
 f_Chart : T_api_Chart
 f_L : List T_api_Posting
 f_Holds : List T_api_Hold
 f_Limits : List T_api_Limit
 deriving DecidableEq, Inhabited
def T_api_Till.pv (x : T_api_Till) : PV := .agg [.slice (List.map T_api_Customer.pv x.f_Chart.f_Customers), .slice (List.map T_api_Record.pv x.f_Chart.f_Records), .slice (List.map T_api_Posting.pv x.f_L), .slice (List.map T_api_Hold.pv x.f_Holds), .slice (List.map T_api_Limit.pv x.f_Limits)]
theorem T_api_Till.pv_inj (x y : T_api_Till) : x.pv = y.pv ↔ x = y := by
 constructor
 ·intro h; rcases x with ⟨⟨_, _⟩, _, _, _⟩; rcases y with ⟨⟨_, _⟩, _, _, _⟩; simp [T_api_Till.pv, eInt_maps, eBool_maps, eStr_maps, T_api_Customer.pv_maps, T_api_Record.pv_maps, T_api_Chart.pv_maps, T_api_Money.pv_maps, T_api_Leg.pv_maps, T_api_Posting.pv_maps, T_api_Hold.pv_maps, T_api_Limit.pv_maps] at h; simp [h]
 ·rintro rfl; rfl
theorem T_api_Till.pv_maps (l m : List T_api_Till) : l.map T_api_Till.pv = m.map T_api_Till.pv ↔ l = m := List.map_inj_right (fun x y h => (T_api_Till.pv_inj x y).1 h)
def T_api_Till.tt : TT := .struct (.field T_api_Chart.tt (.field (.slice T_api_Posting.tt) (.field (.slice T_api_Hold.tt) (.field (.slice T_api_Limit.tt) .unit))))
def T_api_Till.wf (x : T_api_Till) : Prop := T_api_Chart.wf x.f_Chart ∧ (x.f_L.length ≤ maxLen ∧ ∀ x' ∈ x.f_L, T_api_Posting.wf x') ∧ (x.f_Holds.length ≤ maxLen ∧ ∀ x' ∈ x.f_Holds, T_api_Hold.wf x') ∧ (x.f_Limits.length ≤ maxLen ∧ ∀ x' ∈ x.f_Limits, T_api_Limit.wf x')
theorem T_api_Till.of {xs : List PV} (hh : T_api_Till.tt.Of xs) : ∃ x : T_api_Till, x.wf ∧ T_api_Till.tt.pack xs = T_api_Till.pv x := by
 obtain ⟨a0, b0, rfl, h0, hh⟩ := hh
 obtain ⟨a1, b1, rfl, h1, hh⟩ := hh
 obtain ⟨a2, b2, rfl, h2, hh⟩ := hh
 obtain ⟨a3, b3, rfl, h3, hh⟩ := hh
 obtain rfl : _ = [] := hh
 obtain ⟨n0, w0, e0⟩ := T_api_Chart.of h0
 obtain rfl := PV.agg.inj e0
 obtain ⟨n1, w1, rfl⟩ := of_slice (f := T_api_Posting.pv) (wf := T_api_Posting.wf) (fun xs h => T_api_Posting.of h) h1
 obtain ⟨n2, w2, rfl⟩ := of_slice (f := T_api_Hold.pv) (wf := T_api_Hold.wf) (fun xs h => T_api_Hold.of h) h2
 obtain ⟨n3, w3, rfl⟩ := of_slice (f := T_api_Limit.pv) (wf := T_api_Limit.wf) (fun xs h => T_api_Limit.of h) h3
 exact ⟨⟨n0, n1, n2, n3⟩, ⟨w0, w1, w2, w3⟩, rfl⟩
structure T_balance_great where
 f_sum : Int
 deriving DecidableEq, Inhabited
def T_balance_great.pv (x : T_balance_great) : PV := .agg [.int .i64 x.f_sum]
theorem T_balance_great.pv_inj (x y : T_balance_great) : x.pv = y.pv ↔ x = y := by
 constructor
 ·intro h; rcases x with ⟨_⟩; rcases y with ⟨_⟩; simp [T_balance_great.pv, eInt_maps, eBool_maps, eStr_maps, T_api_Customer.pv_maps, T_api_Record.pv_maps, T_api_Chart.pv_maps, T_api_Money.pv_maps, T_api_Leg.pv_maps, T_api_Posting.pv_maps, T_api_Hold.pv_maps, T_api_Limit.pv_maps, T_api_Till.pv_maps] at h; simp [h]
 ·rintro rfl; rfl
theorem T_balance_great.pv_maps (l m : List T_balance_great) : l.map T_balance_great.pv = m.map T_balance_great.pv ↔ l = m := List.map_inj_right (fun x y h => (T_balance_great.pv_inj x y).1 h)
def T_balance_great.same (x y : T_balance_great) : Bool := ((x.f_sum == y.f_sum) && true)
def T_balance_great.tt : TT := .struct (.field (.int .i64) .unit)
def T_balance_great.wf (x : T_balance_great) : Prop := inR .i64 x.f_sum
theorem T_balance_great.of {xs : List PV} (hh : T_balance_great.tt.Of xs) : ∃ x : T_balance_great, x.wf ∧ T_balance_great.tt.pack xs = T_balance_great.pv x := by
 obtain ⟨a0, b0, rfl, h0, hh⟩ := hh
 obtain rfl : _ = [] := hh
 obtain ⟨n0, rfl, w0⟩ := h0
 exact ⟨⟨n0⟩, w0, rfl⟩
structure T_balance_leg where
 f_known : Int
 f_value : Int
 f_minor : Int
 deriving DecidableEq, Inhabited
def T_balance_leg.pv (x : T_balance_leg) : PV := .agg [.int .i32 x.f_known, .int .i32 x.f_value, .int .i64 x.f_minor]
theorem T_balance_leg.pv_inj (x y : T_balance_leg) : x.pv = y.pv ↔ x = y := by
 constructor
 ·intro h; rcases x with ⟨_, _, _⟩; rcases y with ⟨_, _, _⟩; simp [T_balance_leg.pv, eInt_maps, eBool_maps, eStr_maps, T_api_Customer.pv_maps, T_api_Record.pv_maps, T_api_Chart.pv_maps, T_api_Money.pv_maps, T_api_Leg.pv_maps, T_api_Posting.pv_maps, T_api_Hold.pv_maps, T_api_Limit.pv_maps, T_api_Till.pv_maps, T_balance_great.pv_maps] at h; simp [h]
 ·rintro rfl; rfl
theorem T_balance_leg.pv_maps (l m : List T_balance_leg) : l.map T_balance_leg.pv = m.map T_balance_leg.pv ↔ l = m := List.map_inj_right (fun x y h => (T_balance_leg.pv_inj x y).1 h)
def T_balance_leg.same (x y : T_balance_leg) : Bool := ((x.f_known == y.f_known) && ((x.f_value == y.f_value) && ((x.f_minor == y.f_minor) && true)))
def T_balance_leg.tt : TT := .struct (.field (.int .i32) (.field (.int .i32) (.field (.int .i64) .unit)))
def T_balance_leg.wf (x : T_balance_leg) : Prop := inR .i32 x.f_known ∧ inR .i32 x.f_value ∧ inR .i64 x.f_minor
theorem T_balance_leg.of {xs : List PV} (hh : T_balance_leg.tt.Of xs) : ∃ x : T_balance_leg, x.wf ∧ T_balance_leg.tt.pack xs = T_balance_leg.pv x := by
 obtain ⟨a0, b0, rfl, h0, hh⟩ := hh
 obtain ⟨a1, b1, rfl, h1, hh⟩ := hh
 obtain ⟨a2, b2, rfl, h2, hh⟩ := hh
 obtain rfl : _ = [] := hh
 obtain ⟨n0, rfl, w0⟩ := h0
 obtain ⟨n1, rfl, w1⟩ := h1
 obtain ⟨n2, rfl, w2⟩ := h2
 exact ⟨⟨n0, n1, n2⟩, ⟨w0, w1, w2⟩, rfl⟩
structure T_avail_account where
 f_cur : Int
 f_funds : Int
 f_limit : Int
 deriving DecidableEq, Inhabited
def T_avail_account.pv (x : T_avail_account) : PV := .agg [.int .i64 x.f_cur, .int .i64 x.f_funds, .int .i64 x.f_limit]
theorem T_avail_account.pv_inj (x y : T_avail_account) : x.pv = y.pv ↔ x = y := by
 constructor
 ·intro h; rcases x with ⟨_, _, _⟩; rcases y with ⟨_, _, _⟩; simp [T_avail_account.pv, eInt_maps, eBool_maps, eStr_maps, T_api_Customer.pv_maps, T_api_Record.pv_maps, T_api_Chart.pv_maps, T_api_Money.pv_maps, T_api_Leg.pv_maps, T_api_Posting.pv_maps, T_api_Hold.pv_maps, T_api_Limit.pv_maps, T_api_Till.pv_maps, T_balance_great.pv_maps, T_balance_leg.pv_maps] at h; simp [h]
 ·rintro rfl; rfl
theorem T_avail_account.pv_maps (l m : List T_avail_account) : l.map T_avail_account.pv = m.map T_avail_account.pv ↔ l = m := List.map_inj_right (fun x y h => (T_avail_account.pv_inj x y).1 h)
def T_avail_account.same (x y : T_avail_account) : Bool := ((x.f_cur == y.f_cur) && ((x.f_funds == y.f_funds) && ((x.f_limit == y.f_limit) && true)))
def T_avail_account.tt : TT := .struct (.field (.int .i64) (.field (.int .i64) (.field (.int .i64) .unit)))
def T_avail_account.wf (x : T_avail_account) : Prop := inR .i64 x.f_cur ∧ inR .i64 x.f_funds ∧ inR .i64 x.f_limit
theorem T_avail_account.of {xs : List PV} (hh : T_avail_account.tt.Of xs) : ∃ x : T_avail_account, x.wf ∧ T_avail_account.tt.pack xs = T_avail_account.pv x := by
 obtain ⟨a0, b0, rfl, h0, hh⟩ := hh
 obtain ⟨a1, b1, rfl, h1, hh⟩ := hh
 obtain ⟨a2, b2, rfl, h2, hh⟩ := hh
 obtain rfl : _ = [] := hh
 obtain ⟨n0, rfl, w0⟩ := h0
 obtain ⟨n1, rfl, w1⟩ := h1
 obtain ⟨n2, rfl, w2⟩ := h2
 exact ⟨⟨n0, n1, n2⟩, ⟨w0, w1, w2⟩, rfl⟩
noncomputable def cashbooklaw26_few (t1 : T_api_Till) : Option T_api_Till :=
 (slO t1.f_Chart.f_Customers 0 (if 20 < (t1.f_Chart.f_Customers.length : Int) then 20 else (t1.f_Chart.f_Customers.length : Int))).bind fun x2 =>
 (slO t1.f_Chart.f_Records 0 (if 30 < (t1.f_Chart.f_Records.length : Int) then 30 else (t1.f_Chart.f_Records.length : Int))).bind fun x3 =>
 ((if (decide ((t1.f_L.length : Int) ≤ 2000)) = true then
   (slO t1.f_L 0 (if 40 < (t1.f_L.length : Int) then 40 else (t1.f_L.length : Int))).bind fun x5 =>
   ((loopO (fun (qj6 : Int × (List T_api_Posting)) => match qj6 with
     | (x7, row8) => (
      if (decide (x7 < (x5.length : Int))) = true then
       (rdO x5 x7).bind fun x9 =>
       (slO x9.f_Legs 0 (if 6 < (x9.f_Legs.length : Int) then 6 else (x9.f_Legs.length : Int))).bind fun x10 =>
       (apO 72 row8 [(⟨x9.f_ID, x9.f_Known, x9.f_Value, x10, x9.f_Reverses, x9.f_Kind, x9.f_Memo⟩ : T_api_Posting)]).bind fun x11 =>
       some (.inl (IntKind.wrap .i64 (x7 + 1), x11))
      else
       some (.inr row8) : Option ((Int × (List T_api_Posting)) ⊕ (List T_api_Posting)))) (0, ([] : List T_api_Posting))) : Option (List T_api_Posting)).bind fun j6 =>
   some j6
 else
  some t1.f_L) : Option (List T_api_Posting)).bind fun j4 =>
 (slO t1.f_Holds 0 (if 40 < (t1.f_Holds.length : Int) then 40 else (t1.f_Holds.length : Int))).bind fun x14 =>
 (slO t1.f_Limits 0 (if 40 < (t1.f_Limits.length : Int) then 40 else (t1.f_Limits.length : Int))).bind fun x15 =>
 some (⟨(⟨x2, x3⟩ : T_api_Chart), j4, x14, x15⟩ : T_api_Till)
def avail_in_Account (n1 : Int) (low2 : Int) (high3 : Int) : Option Bool :=
 (some (decide (n1 ≥ low2))).bind fun c4 =>
 some (c4 && (decide (n1 ≤ high3)))
def avail_in_int64 (n1 : Int) (low2 : Int) (high3 : Int) : Option Bool :=
 (some (decide (n1 ≥ low2))).bind fun c4 =>
 some (c4 && (decide (n1 ≤ high3)))
def chart_idOf (x1 : T_api_Customer) : Option Int :=
 some x1.f_ID
noncomputable def chart_rises_Customer_int (l1 : List T_api_Customer) : Option Bool :=
 ((loopO (fun (qj2 : Int) => match qj2 with
   | i3 => (
    if (decide (i3 < (l1.length : Int))) = true then
     (rdO l1 (IntKind.wrap .i64 (i3 - 1))).bind fun x4 =>
     (chart_idOf x4).bind fun x5 =>
     (rdO l1 i3).bind fun x6 =>
     (chart_idOf x6).bind fun x7 =>
     if (decide (x5 ≥ x7)) = true then
      some (.inr (.inr false))
     else
      some (.inl (IntKind.wrap .i64 (i3 + 1)))
    else
     some (.inr (.inl ())) : Option (Int ⊕ (Unit ⊕ Bool)))) 1) : Option (Unit ⊕ Bool)).bind fun j2 => match j2 with
 | .inr o => some o
 | .inl _ =>
 some true
def chart_accOf (r1 : T_api_Record) : Option Int :=
 some r1.f_Acc
noncomputable def chart_rises_Record_Account (l1 : List T_api_Record) : Option Bool :=
 ((loopO (fun (qj2 : Int) => match qj2 with
   | i3 => (
    if (decide (i3 < (l1.length : Int))) = true then
     (rdO l1 (IntKind.wrap .i64 (i3 - 1))).bind fun x4 =>
     (chart_accOf x4).bind fun x5 =>
     (rdO l1 i3).bind fun x6 =>
     (chart_accOf x6).bind fun x7 =>
     if (decide (x5 ≥ x7)) = true then
      some (.inr (.inr false))
     else
      some (.inl (IntKind.wrap .i64 (i3 + 1)))
    else
     some (.inr (.inl ())) : Option (Int ⊕ (Unit ⊕ Bool)))) 1) : Option (Unit ⊕ Bool)).bind fun j2 => match j2 with
 | .inr o => some o
 | .inl _ =>
 some true
def chart_in_int (n1 : Int) (low2 : Int) (high3 : Int) : Option Bool :=
 (some (decide (n1 ≥ low2))).bind fun c4 =>
 some (c4 && (decide (n1 ≤ high3)))
def chart_isCustomer_1 (r1 : Int) : Option Bool :=
 (some (decide (r1 < 32))).bind fun c2 =>
 some (c2 || (decide (r1 > 126)))
noncomputable def chart_isCustomer (x1 : T_api_Customer) : Option Bool :=
 (chart_in_int x1.f_ID 1 999).bind fun x2 =>
 (gdO x2 (chart_in_int (x1.f_Name.length : Int) 1 32) (default : Bool)).bind fun x3 =>
 (some (x2 && x3)).bind fun c4 =>
 (gdO c4 (strings_ContainsFunc chart_isCustomer_1 x1.f_Name) (default : Bool)).bind fun x5 =>
 (some (c4 && (!x5))).bind fun c6 =>
 (gdO c6 (chart_in_int x1.f_Kind 0 3) (default : Bool)).bind fun x7 =>
 some (c6 && x7)
noncomputable def chart_Right_1 (x1 : T_api_Customer) : Option Bool :=
 (chart_isCustomer x1).bind fun x2 =>
 some (!x2)
noncomputable def slices_IndexFunc_Customer_Customer (s1 : List T_api_Customer) : Option Int :=
 ((loopO (fun (qj2 : Int) => match qj2 with
   | x3 => (
    if (decide (x3 < (s1.length : Int))) = true then
     (rdO s1 x3).bind fun x4 =>
     (chart_Right_1 x4).bind fun x5 =>
     if x5 = true then
      some (.inr (.inr x3))
     else
      some (.inl (IntKind.wrap .i64 (x3 + 1)))
    else
     some (.inr (.inl ())) : Option (Int ⊕ (Unit ⊕ Int)))) 0) : Option (Unit ⊕ Int)).bind fun j2 => match j2 with
 | .inr o => some o
 | .inl _ =>
 some (-1)
noncomputable def slices_ContainsFunc_Customer_Customer (s1 : List T_api_Customer) : Option Bool :=
 (slices_IndexFunc_Customer_Customer s1).bind fun x2 =>
 some (decide (x2 ≥ 0))
def cmp_isNaN_int (x1 : Int) : Option Bool :=
 some (x1 != x1)
def cmp_Compare_int (x1 : Int) (y2 : Int) : Option Int :=
 (cmp_isNaN_int x1).bind fun x3 =>
 (cmp_isNaN_int y2).bind fun x4 =>
 if x3 = true then
  if x4 = true then
   some 0
  else
   some (-1)
 else
  if x4 = true then
   some 1
  else
   if (decide (x1 < y2)) = true then
    some (-1)
   else
    if (decide (x1 > y2)) = true then
     some 1
    else
     some 0
def chart_place_Customer_int_1 (x1 : T_api_Customer) (n2 : Int) : Option Int :=
 (chart_idOf x1).bind fun x3 =>
 (cmp_Compare_int x3 n2).bind fun x4 =>
 some x4
noncomputable def slices_BinarySearchFunc_Customer_Customer_int (x1 : List T_api_Customer) (target2 : Int) : Option (Int × Bool) :=
 ((loopO (fun (qj3 : Int × Int) => match qj3 with
   | (i4, j5) => (
    if (decide (i4 < j5)) = true then
     (rdO x1 (IntKind.wrap .i64 (Int.fdiv (IntKind.wrap .u64 (IntKind.wrap .i64 (i4 + j5))) 2))).bind fun x6 =>
     (chart_place_Customer_int_1 x6 target2).bind fun x7 =>
     if (decide (x7 < 0)) = true then
      some (.inl (IntKind.wrap .i64 ((IntKind.wrap .i64 (Int.fdiv (IntKind.wrap .u64 (IntKind.wrap .i64 (i4 + j5))) 2)) + 1), j5))
     else
      some (.inl (i4, IntKind.wrap .i64 (Int.fdiv (IntKind.wrap .u64 (IntKind.wrap .i64 (i4 + j5))) 2)))
    else
     some (.inr i4) : Option ((Int × Int) ⊕ Int))) (0, (x1.length : Int))) : Option Int).bind fun j3 =>
 (some (decide (j3 < (x1.length : Int)))).bind fun c9 =>
 (gdO c9 (rdO x1 j3) (default : T_api_Customer)).bind fun x10 =>
 (gdO c9 (chart_place_Customer_int_1 x10 target2) (default : Int)).bind fun x11 =>
 some (j3, (c9 && (x11 == 0)))
noncomputable def chart_place_Customer_int (l1 : List T_api_Customer) (n2 : Int) : Option (Int × Bool) :=
 (slices_BinarySearchFunc_Customer_Customer_int l1 n2).bind fun x3 =>
 some (x3.1, x3.2)
def chart_in_Account (n1 : Int) (low2 : Int) (high3 : Int) : Option Bool :=
 (some (decide (n1 ≥ low2))).bind fun c4 =>
 some (c4 && (decide (n1 ≤ high3)))
def chart_in_Currency (n1 : Int) (low2 : Int) (high3 : Int) : Option Bool :=
 (some (decide (n1 ≥ low2))).bind fun c4 =>
 some (c4 && (decide (n1 ≤ high3)))
def date_Right (d1 : Int) : Option Bool :=
 (some (decide (d1 ≥ (-50000)))).bind fun c2 =>
 some (c2 && (decide (d1 ≤ 50000)))
def chart_isRecord (r1 : T_api_Record) : Option Bool :=
 (chart_in_Account r1.f_Acc 1 999).bind fun x2 =>
 (some (!x2)).bind fun c3 =>
 (gdO (!c3) (chart_in_int r1.f_Kind 0 3) (default : Bool)).bind fun x4 =>
 (some (c3 || (!x4))).bind fun c5 =>
 (gdO (!c5) (chart_in_Currency r1.f_Cur 0 3) (default : Bool)).bind fun x6 =>
 (some (c5 || (!x6))).bind fun c7 =>
 (gdO (!c7) (chart_in_int r1.f_Customer 0 999) (default : Bool)).bind fun x8 =>
 if (c7 || (!x8)) = true then
  some false
 else
  (some (decide (r1.f_Kind ≥ 2))).bind fun c9 =>
  (some (r1.f_Customer != 0)).bind fun c10 =>
  if (c9 && (c10 || (r1.f_Product != 0))) = true then
   some false
  else
   (chart_in_int r1.f_Product 0 20).bind fun x11 =>
   (gdO x11 (chart_in_int r1.f_Partition 0 3) (default : Bool)).bind fun x12 =>
   (some (x11 && x12)).bind fun c13 =>
   (gdO c13 (date_Right r1.f_From) (default : Bool)).bind fun x14 =>
   (some (c13 && x14)).bind fun c15 =>
   (gdO c15 (date_Right r1.f_To) (default : Bool)).bind fun x16 =>
   (some (c15 && x16)).bind fun c17 =>
   some (c17 && (decide (r1.f_From ≤ r1.f_To)))
noncomputable def chart_Right_2 (r1 : T_api_Record) (e2 : T_api_Chart) : Option Bool :=
 (chart_place_Customer_int e2.f_Customers r1.f_Customer).bind fun x3 =>
 (chart_isRecord r1).bind fun x4 =>
 (some (!x4)).bind fun c5 =>
 (some (decide (r1.f_Customer > 0))).bind fun c6 =>
 some (c5 || (c6 && (!x3.2)))
noncomputable def slices_IndexFunc_Record_Record (s1 : List T_api_Record) (e2 : T_api_Chart) : Option Int :=
 ((loopO (fun (qj3 : Int) => match qj3 with
   | x4 => (
    if (decide (x4 < (s1.length : Int))) = true then
     (rdO s1 x4).bind fun x5 =>
     (chart_Right_2 x5 e2).bind fun x6 =>
     if x6 = true then
      some (.inr (.inr x4))
     else
      some (.inl (IntKind.wrap .i64 (x4 + 1)))
    else
     some (.inr (.inl ())) : Option (Int ⊕ (Unit ⊕ Int)))) 0) : Option (Unit ⊕ Int)).bind fun j3 => match j3 with
 | .inr o => some o
 | .inl _ =>
 some (-1)
noncomputable def slices_ContainsFunc_Record_Record (s1 : List T_api_Record) (e2 : T_api_Chart) : Option Bool :=
 (slices_IndexFunc_Record_Record s1 e2).bind fun x3 =>
 some (decide (x3 ≥ 0))
noncomputable def chart_Right (c1 : T_api_Chart) : Option Bool :=
 (some (decide ((c1.f_Customers.length : Int) > 100))).bind fun c2 =>
 (some (c2 || (decide ((c1.f_Records.length : Int) > 200)))).bind fun c3 =>
 (gdO (!c3) (chart_rises_Customer_int c1.f_Customers) (default : Bool)).bind fun x4 =>
 (some (c3 || (!x4))).bind fun c5 =>
 (gdO (!c5) (chart_rises_Record_Account c1.f_Records) (default : Bool)).bind fun x6 =>
 if (c5 || (!x6)) = true then
  some false
 else
  (slices_ContainsFunc_Customer_Customer c1.f_Customers).bind fun x7 =>
  if x7 = true then
   some false
  else
   (slices_ContainsFunc_Record_Record c1.f_Records c1).bind fun x8 =>
   some (!x8)
def money_is (cur1 : Int) : Option Bool :=
 (some (decide (cur1 ≥ 0))).bind fun c2 =>
 some (c2 && (decide (cur1 < 4)))
def money_Right (m1 : T_api_Money) : Option Bool :=
 (money_is m1.f_Cur).bind fun x2 =>
 (some (x2 && (decide (m1.f_Minor ≥ (-1000000000000000))))).bind fun c3 =>
 some (c3 && (decide (m1.f_Minor ≤ 1000000000000000)))
def hold_right (h1 : T_api_Hold) : Option Bool :=
 (some (decide (h1.f_ID ≥ 1))).bind fun c2 =>
 (some (c2 && (decide (h1.f_ID ≤ 1000000)))).bind fun c3 =>
 (some (c3 && (decide (h1.f_Acc ≥ 1)))).bind fun c4 =>
 (some (c4 && (decide (h1.f_Acc ≤ 999)))).bind fun c5 =>
 (some (c5 && (decide (h1.f_Rank ≥ 0)))).bind fun c6 =>
 (money_Right h1.f_Amount).bind fun x7 =>
 (some (x7 && (decide (h1.f_Amount.f_Minor > 0)))).bind fun c8 =>
 (some (c8 && (decide (h1.f_Taken ≥ 0)))).bind fun c9 =>
 (some (c6 && (decide (h1.f_Rank ≤ 9)))).bind fun c10 =>
 (some (c10 && (c9 && (decide (h1.f_Taken ≤ h1.f_Amount.f_Minor))))).bind fun c11 =>
 (gdO c11 (date_Right h1.f_Made) (default : Bool)).bind fun x12 =>
 (some (c11 && x12)).bind fun c13 =>
 (gdO c13 (date_Right h1.f_Until) (default : Bool)).bind fun x14 =>
 (some (c13 && x14)).bind fun c15 =>
 some (c15 && (decide (h1.f_Made ≤ h1.f_Until)))
def hold_Check_1 (h1 : T_api_Hold) : Option Bool :=
 (hold_right h1).bind fun x2 =>
 some (!x2)
noncomputable def slices_IndexFunc_Hold_Hold (s1 : List T_api_Hold) : Option Int :=
 ((loopO (fun (qj2 : Int) => match qj2 with
   | x3 => (
    if (decide (x3 < (s1.length : Int))) = true then
     (rdO s1 x3).bind fun x4 =>
     (hold_Check_1 x4).bind fun x5 =>
     if x5 = true then
      some (.inr (.inr x3))
     else
      some (.inl (IntKind.wrap .i64 (x3 + 1)))
    else
     some (.inr (.inl ())) : Option (Int ⊕ (Unit ⊕ Int)))) 0) : Option (Unit ⊕ Int)).bind fun j2 => match j2 with
 | .inr o => some o
 | .inl _ =>
 some (-1)
noncomputable def slices_ContainsFunc_Hold_Hold (s1 : List T_api_Hold) : Option Bool :=
 (slices_IndexFunc_Hold_Hold s1).bind fun x2 =>
 some (decide (x2 ≥ 0))
noncomputable def hold_Check (l1 : List T_api_Hold) : Option Int :=
 (slices_ContainsFunc_Hold_Hold l1).bind fun x2 =>
 if x2 = true then
  some 1
 else
  ((loopO (fun (qj3 : Int) => match qj3 with
    | i4 => (
     if (decide (i4 < (l1.length : Int))) = true then
      (rdO l1 (IntKind.wrap .i64 (i4 - 1))).bind fun x5 =>
      (rdO l1 i4).bind fun x6 =>
      if (decide (x5.f_ID ≥ x6.f_ID)) = true then
       some (.inr (.inr 20))
      else
       some (.inl (IntKind.wrap .i64 (i4 + 1)))
     else
      some (.inr (.inl ())) : Option (Int ⊕ (Unit ⊕ Int)))) 1) : Option (Unit ⊕ Int)).bind fun j3 => match j3 with
  | .inr o => some o
  | .inl _ =>
  if (decide ((l1.length : Int) > 200)) = true then
   some 6
  else
   some 0
noncomputable def avail_Right (t1 : T_api_Till) : Option Bool :=
 ((loopO (fun (qj2 : Int) => match qj2 with
   | x3 => (
    if (decide (x3 < (t1.f_Limits.length : Int))) = true then
     (rdO t1.f_Limits x3).bind fun x4 =>
     (avail_in_Account x4.f_Acc 1 999).bind fun x5 =>
     (some (!x5)).bind fun c6 =>
     (gdO (!c6) (avail_in_int64 x4.f_Minor 0 1000000000000000) (default : Bool)).bind fun x7 =>
     (some (c6 || (!x7))).bind fun c8 =>
     (some (decide (x3 > 0))).bind fun c9 =>
     (gdO ((!c8) && c9) (rdO t1.f_Limits (IntKind.wrap .i64 (x3 - 1))) (default : T_api_Limit)).bind fun x10 =>
     if (c8 || (c9 && (decide (x10.f_Acc ≥ x4.f_Acc)))) = true then
      some (.inr (.inr false))
     else
      some (.inl (IntKind.wrap .i64 (x3 + 1)))
    else
     some (.inr (.inl ())) : Option (Int ⊕ (Unit ⊕ Bool)))) 0) : Option (Unit ⊕ Bool)).bind fun j2 => match j2 with
 | .inr o => some o
 | .inl _ =>
 (chart_Right t1.f_Chart).bind fun x11 =>
 (some (x11 && (decide ((t1.f_L.length : Int) ≤ 2000)))).bind fun c12 =>
 (gdO c12 (hold_Check t1.f_Holds) (default : Int)).bind fun x13 =>
 (some (c12 && (x13 == 0))).bind fun c14 =>
 some (c14 && (decide ((t1.f_Limits.length : Int) ≤ 200)))
def cmp_isNaN_Account (x1 : Int) : Option Bool :=
 some (x1 != x1)
def cmp_Compare_Account (x1 : Int) (y2 : Int) : Option Int :=
 (cmp_isNaN_Account x1).bind fun x3 =>
 (cmp_isNaN_Account y2).bind fun x4 =>
 if x3 = true then
  if x4 = true then
   some 0
  else
   some (-1)
 else
  if x4 = true then
   some 1
  else
   if (decide (x1 < y2)) = true then
    some (-1)
   else
    if (decide (x1 > y2)) = true then
     some 1
    else
     some 0
def chart_place_Record_Account_1 (x1 : T_api_Record) (n2 : Int) : Option Int :=
 (chart_accOf x1).bind fun x3 =>
 (cmp_Compare_Account x3 n2).bind fun x4 =>
 some x4
noncomputable def slices_BinarySearchFunc_Record_Record_Account (x1 : List T_api_Record) (target2 : Int) : Option (Int × Bool) :=
 ((loopO (fun (qj3 : Int × Int) => match qj3 with
   | (i4, j5) => (
    if (decide (i4 < j5)) = true then
     (rdO x1 (IntKind.wrap .i64 (Int.fdiv (IntKind.wrap .u64 (IntKind.wrap .i64 (i4 + j5))) 2))).bind fun x6 =>
     (chart_place_Record_Account_1 x6 target2).bind fun x7 =>
     if (decide (x7 < 0)) = true then
      some (.inl (IntKind.wrap .i64 ((IntKind.wrap .i64 (Int.fdiv (IntKind.wrap .u64 (IntKind.wrap .i64 (i4 + j5))) 2)) + 1), j5))
     else
      some (.inl (i4, IntKind.wrap .i64 (Int.fdiv (IntKind.wrap .u64 (IntKind.wrap .i64 (i4 + j5))) 2)))
    else
     some (.inr i4) : Option ((Int × Int) ⊕ Int))) (0, (x1.length : Int))) : Option Int).bind fun j3 =>
 (some (decide (j3 < (x1.length : Int)))).bind fun c9 =>
 (gdO c9 (rdO x1 j3) (default : T_api_Record)).bind fun x10 =>
 (gdO c9 (chart_place_Record_Account_1 x10 target2) (default : Int)).bind fun x11 =>
 some (j3, (c9 && (x11 == 0)))
noncomputable def chart_place_Record_Account (l1 : List T_api_Record) (n2 : Int) : Option (Int × Bool) :=
 (slices_BinarySearchFunc_Record_Record_Account l1 n2).bind fun x3 =>
 some (x3.1, x3.2)
noncomputable def chart_Find (c1 : T_api_Chart) (a2 : Int) : Option (T_api_Record × Int) :=
 (chart_Right c1).bind fun x3 =>
 if (!x3) = true then
  some ((⟨0, 0, 0, 0, 0, 0, 0, 0⟩ : T_api_Record), 1)
 else
  (chart_place_Record_Account c1.f_Records a2).bind fun x4 =>
  if (!x4.2) = true then
   some ((⟨0, 0, 0, 0, 0, 0, 0, 0⟩ : T_api_Record), 8)
  else
   (rdO c1.f_Records x4.1).bind fun x5 =>
   some (x5, 0)
def avail_check (e1 : Int) : Option (Option Int) :=
 if (e1 == 0) = true then
  some none
 else
  some (some e1)
def chart_in_Date (n1 : Int) (low2 : Int) (high3 : Int) : Option Bool :=
 (some (decide (n1 ≥ low2))).bind fun c4 =>
 some (c4 && (decide (n1 ≤ high3)))
noncomputable def chart_Is (c1 : T_api_Chart) (a2 : Int) (day3 : Int) : Option (Bool × Int) :=
 (chart_Find c1 a2).bind fun x4 =>
 if (x4.2 != 0) = true then
  some (false, x4.2)
 else
  (date_Right day3).bind fun x5 =>
  if (!x5) = true then
   some (false, 11)
  else
   (chart_in_Date day3 x4.1.f_From x4.1.f_To).bind fun x6 =>
   some (x6, 0)
def balance_may_1 (d1 : Int) : Option Bool :=
 (date_Right d1).bind fun x2 =>
 some (!x2)
noncomputable def slices_IndexFunc_Date_Date (s1 : List Int) : Option Int :=
 ((loopO (fun (qj2 : Int) => match qj2 with
   | x3 => (
    if (decide (x3 < (s1.length : Int))) = true then
     (rdO s1 x3).bind fun x4 =>
     (balance_may_1 x4).bind fun x5 =>
     if x5 = true then
      some (.inr (.inr x3))
     else
      some (.inl (IntKind.wrap .i64 (x3 + 1)))
    else
     some (.inr (.inl ())) : Option (Int ⊕ (Unit ⊕ Int)))) 0) : Option (Unit ⊕ Int)).bind fun j2 => match j2 with
 | .inr o => some o
 | .inl _ =>
 some (-1)
noncomputable def slices_ContainsFunc_Date_Date (s1 : List Int) : Option Bool :=
 (slices_IndexFunc_Date_Date s1).bind fun x2 =>
 some (decide (x2 ≥ 0))
noncomputable def balance_may (l1 : List T_api_Posting) (from_2 : Int) (to3 : Int) (more4 : List Int) : Option Int :=
 if (decide ((l1.length : Int) > 2000)) = true then
  some 4
 else
  (balance_may_1 from_2).bind fun x5 =>
  (gdO (!x5) (balance_may_1 to3) (default : Bool)).bind fun x6 =>
  (some (x5 || x6)).bind fun c7 =>
  (some (c7 || (decide (from_2 > to3)))).bind fun c8 =>
  (gdO (!c8) (slices_ContainsFunc_Date_Date more4) (default : Bool)).bind fun x9 =>
  if (c8 || x9) = true then
   some 11
  else
   some 0
def balance_great_add (n1 : Int) (e2 : T_balance_great) : Option (Bool × Int) :=
 ((if (decide (n1 < 0)) = true then
   some (IntKind.wrap .i64 (0 - n1))
 else
  some n1) : Option Int).bind fun j3 =>
 (some (decide (j3 < 0))).bind fun c5 =>
 if (c5 || (decide (j3 > (IntKind.wrap .i64 (1000000000000000000 - e2.f_sum))))) = true then
  some (true, e2.f_sum)
 else
  some (false, IntKind.wrap .i64 (e2.f_sum + j3))
noncomputable def balance_legs (l1 : List T_api_Posting) (acc2 : Int) (cur3 : Int) : Option ((List T_balance_leg) × Int) :=
 ((loopO (fun (qj4 : Int × Int × (List T_balance_leg)) => match qj4 with
   | (x5, g6, row7) => (
    if (decide (x5 < (l1.length : Int))) = true then
     (rdO l1 x5).bind fun x8 =>
     ((loopO (fun (qj9 : Int × Int × (List T_balance_leg)) => match qj9 with
       | (x10, g11, row12) => (
        if (decide (x10 < (x8.f_Legs.length : Int))) = true then
         (((rdO x8.f_Legs x10).bind fun x14 =>
         (some (x14.f_Acc != acc2)).bind fun c15 =>
         if (c15 || (x14.f_Amount.f_Cur != cur3)) = true then
          some (.inl (g11, row12))
         else
          (balance_great_add x14.f_Amount.f_Minor (⟨g11⟩ : T_balance_great)).bind fun x16 =>
          if x16.1 = true then
           some (.inr (.inr (.inr (.inr (.inr (([] : List T_balance_leg), 9))))))
          else
           (apO 16 row12 [(⟨x8.f_Known, x8.f_Value, x14.f_Amount.f_Minor⟩ : T_balance_leg)]).bind fun x17 =>
           some (.inl (x16.2, x17))) : Option ((Int × (List T_balance_leg)) ⊕ ((Int × Int × (List T_balance_leg)) ⊕ ((Int × (List T_balance_leg)) ⊕ ((Int × Int × (List T_balance_leg)) ⊕ ((List T_balance_leg) ⊕ ((List T_balance_leg) × Int))))))).bind fun j13 => match j13 with
         | .inr o => some o
         | .inl (g18, row19) =>
         some (.inl (IntKind.wrap .i64 (x10 + 1), g18, row19))
        else
         some (.inr (.inl (g11, row12))) : Option ((Int × Int × (List T_balance_leg)) ⊕ ((Int × (List T_balance_leg)) ⊕ ((Int × Int × (List T_balance_leg)) ⊕ ((List T_balance_leg) ⊕ ((List T_balance_leg) × Int))))))) (0, g6, row7)) : Option ((Int × (List T_balance_leg)) ⊕ ((Int × Int × (List T_balance_leg)) ⊕ ((List T_balance_leg) ⊕ ((List T_balance_leg) × Int))))).bind fun j9 => match j9 with
     | .inr o => some o
     | .inl (g20, row21) =>
     some (.inl (IntKind.wrap .i64 (x5 + 1), g20, row21))
    else
     some (.inr (.inl row7)) : Option ((Int × Int × (List T_balance_leg)) ⊕ ((List T_balance_leg) ⊕ ((List T_balance_leg) × Int))))) (0, 0, ([] : List T_balance_leg))) : Option ((List T_balance_leg) ⊕ ((List T_balance_leg) × Int))).bind fun j4 => match j4 with
 | .inr o => some o
 | .inl out22 =>
 some (out22, 0)
def balance_Of_1 (x1 : T_balance_leg) (e2 : Int) : Option Bool :=
 some (decide (x1.f_value ≤ e2))
noncomputable def balance_sum (l1 : List T_balance_leg) (e2 : Int) : Option Int :=
 ((loopO (fun (qj3 : Int × Int) => match qj3 with
   | (n4, x5) => (
    if (decide (x5 < (l1.length : Int))) = true then
     (rdO l1 x5).bind fun x6 =>
     (balance_Of_1 x6 e2).bind fun x7 =>
     ((if x7 = true then
       some (IntKind.wrap .i64 (n4 + x6.f_minor))
     else
      some n4) : Option Int).bind fun j8 =>
     some (.inl (j8, IntKind.wrap .i64 (x5 + 1)))
    else
     some (.inr n4) : Option ((Int × Int) ⊕ Int))) (0, 0)) : Option Int).bind fun j3 =>
 some j3
noncomputable def balance_Of (l1 : List T_api_Posting) (acc2 : Int) (cur3 : Int) (upto4 : Int) : Option (Int × Int) :=
 (balance_may l1 upto4 upto4 ([] : List Int)).bind fun x5 =>
 if (x5 != 0) = true then
  some (0, x5)
 else
  (balance_legs l1 acc2 cur3).bind fun x6 =>
  (balance_sum x6.1 upto4).bind fun x7 =>
  some (x7, x6.2)
def avail_ask_1 (x1 : T_api_Limit) (e2 : Int) : Option Bool :=
 some (x1.f_Acc == e2)
noncomputable def slices_IndexFunc_Limit_Limit (s1 : List T_api_Limit) (e2 : Int) : Option Int :=
 ((loopO (fun (qj3 : Int) => match qj3 with
   | x4 => (
    if (decide (x4 < (s1.length : Int))) = true then
     (rdO s1 x4).bind fun x5 =>
     (avail_ask_1 x5 e2).bind fun x6 =>
     if x6 = true then
      some (.inr (.inr x4))
     else
      some (.inl (IntKind.wrap .i64 (x4 + 1)))
    else
     some (.inr (.inl ())) : Option (Int ⊕ (Unit ⊕ Int)))) 0) : Option (Unit ⊕ Int)).bind fun j3 => match j3 with
 | .inr o => some o
 | .inl _ =>
 some (-1)
noncomputable def avail_ask (t1 : T_api_Till) (acc2 : Int) (now3 : Int) : Option (T_avail_account × (Option Int)) :=
 (chart_Find t1.f_Chart acc2).bind fun x4 =>
 (avail_check x4.2).bind fun x5 =>
 if (Option.isSome x5) = true then
  some ((⟨0, 0, 0⟩ : T_avail_account), x5)
 else
  if (x4.1.f_Kind != 1) = true then
   some ((⟨0, 0, 0⟩ : T_avail_account), (some 13))
  else
   (chart_Is t1.f_Chart acc2 now3).bind fun x6 =>
   (avail_check x6.2).bind fun x7 =>
   if (Option.isSome x7) = true then
    some ((⟨0, 0, 0⟩ : T_avail_account), x7)
   else
    if (!x6.1) = true then
     some ((⟨0, 0, 0⟩ : T_avail_account), (some 16))
    else
     (balance_Of t1.f_L acc2 x4.1.f_Cur now3).bind fun x8 =>
     (slices_IndexFunc_Limit_Limit t1.f_Limits acc2).bind fun x9 =>
     ((if (decide (x9 ≥ 0)) = true then
       (rdO t1.f_Limits x9).bind fun x11 =>
       some x11.f_Minor
     else
      some 0) : Option Int).bind fun j10 =>
     (avail_check x8.2).bind fun x13 =>
     some ((⟨x4.1.f_Cur, IntKind.wrap .i64 (0 - x8.1), j10⟩ : T_avail_account), x13)
def avail_whyOf (e : Option Int) : Option Int := some (e.getD 0)
noncomputable def avail_Funds (t1 : T_api_Till) (acc2 : Int) (now3 : Int) : Option (Int × Int) :=
 (avail_Right t1).bind fun x4 =>
 if (!x4) = true then
  some (0, 1)
 else
  (avail_ask t1 acc2 now3).bind fun x5 =>
  if (Option.isSome x5.2) = true then
   (avail_whyOf x5.2).bind fun x6 =>
   some (0, x6)
  else
   some (x5.1.f_funds, 0)
def cashbooklaw26_one : Option T_api_Till :=
 some (⟨(⟨([] : List T_api_Customer), [(⟨5, 1, 0, 0, 0, 0, 0, 50000⟩ : T_api_Record)]⟩ : T_api_Chart), [(⟨0, 0, 3, [(⟨5, (⟨0, (-100)⟩ : T_api_Money)⟩ : T_api_Leg)], 0, 0, []⟩ : T_api_Posting)], [(⟨1, 5, (⟨0, 30⟩ : T_api_Money), 2, 3, 9, 0, false⟩ : T_api_Hold)], ([] : List T_api_Limit)⟩ : T_api_Till)
def avail_in_int (n1 : Int) (low2 : Int) (high3 : Int) : Option Bool :=
 (some (decide (n1 ≥ low2))).bind fun c4 =>
 some (c4 && (decide (n1 ≤ high3)))
def hold_Live (h1 : T_api_Hold) (now2 : Int) : Option Bool :=
 (hold_right h1).bind fun x3 =>
 (some (x3 && (!h1.f_Done))).bind fun c4 =>
 (some (c4 && (decide (now2 ≥ h1.f_Made)))).bind fun c5 =>
 some (c5 && (decide (now2 ≤ h1.f_Until)))
def hold_Rest (h1 : T_api_Hold) (now2 : Int) : Option Int :=
 (hold_Live h1 now2).bind fun x3 =>
 if (!x3) = true then
  some 0
 else
  some (IntKind.wrap .i64 (h1.f_Amount.f_Minor - h1.f_Taken))
def selO (acc cur now : Int) (h : T_api_Hold) : Option Bool :=
 if (h.f_Acc == acc) = true then if (h.f_Amount.f_Cur == cur) = true then hold_Live h now else some false else some false
def itO (acc cur now : Int) : List T_api_Hold → Option (List T_api_Hold)
 | [] => some []
 | h :: t => (selO acc cur now h).bind fun b => (itO acc cur now t).map fun r => bif b then h :: r else r
def sumStep (now rank : Int) (n : Int) (h : T_api_Hold) : Option Int :=
 if (decide (h.f_Rank ≥ rank)) = true then (hold_Rest h now).bind fun x => some (IntKind.wrap .i64 (n + x)) else some n
def hold_those (l : List T_api_Hold) (acc cur now : Int) : Option (List T_api_Hold) :=
 if (l.length : Int) < 4611686018427387904 then itO acc cur now l else none
noncomputable def hold_Sum (l : List T_api_Hold) (acc cur now rank : Int) : Option (Int × Int) :=
 (hold_Check l).bind fun e => if (e != 0) = true then some (0, e) else
 (hold_those l acc cur now).bind fun r => (foldO (sumStep now rank) 0 r).bind fun n => some (n, 0)
noncomputable def avail_account_free (a1 : T_avail_account) (t2 : T_api_Till) (acc3 : Int) (now4 : Int) (rank5 : Int) : Option Int :=
 (hold_Sum t2.f_Holds acc3 a1.f_cur now4 rank5).bind fun x6 =>
 some (IntKind.wrap .i64 ((IntKind.wrap .i64 (a1.f_funds + a1.f_limit)) - x6.1))
noncomputable def avail_Free (t1 : T_api_Till) (acc2 : Int) (now3 : Int) (rank4 : Int) : Option (Int × Int) :=
 (avail_Right t1).bind fun x5 =>
 (some (!x5)).bind fun c6 =>
 (gdO (!c6) (avail_in_int rank4 0 9) (default : Bool)).bind fun x7 =>
 if (c6 || (!x7)) = true then
  some (0, 1)
 else
  (avail_ask t1 acc2 now3).bind fun x8 =>
  if (Option.isSome x8.2) = true then
   (avail_whyOf x8.2).bind fun x9 =>
   some (0, x9)
  else
   (avail_account_free x8.1 t1 acc2 now3 rank4).bind fun x10 =>
   some (x10, 0)
noncomputable def cashbooklaw26_alive : Option Bool :=
 (cashbooklaw26_one).bind fun x1 =>
 (avail_Free x1 5 4 0).bind fun x2 =>
 (cashbooklaw26_one).bind fun x3 =>
 (avail_Free x3 5 4 3).bind fun x4 =>
 (some (x2.2 == 0)).bind fun c5 =>
 (some (c5 && (x4.2 == 0))).bind fun c6 =>
 (some (c6 && (x2.1 == 70))).bind fun c7 =>
 some (c7 && (x4.1 == 100))
noncomputable def avail_Pay (t1 : T_api_Till) (acc2 : Int) (amount3 : T_api_Money) (now4 : Int) : Option (Bool × Int) :=
 (avail_Right t1).bind fun x5 =>
 if (!x5) = true then
  some (false, 1)
 else
  (avail_ask t1 acc2 now4).bind fun x6 =>
  if (Option.isSome x6.2) = true then
   (avail_whyOf x6.2).bind fun x7 =>
   some (false, x7)
  else
   if (amount3.f_Cur != x6.1.f_cur) = true then
    some (false, 12)
   else
    (avail_in_int64 amount3.f_Minor 1 1000000000000000).bind fun x8 =>
    if (!x8) = true then
     some (false, 1)
    else
     (avail_account_free x6.1 t1 acc2 now4 0).bind fun x9 =>
     some (decide (amount3.f_Minor ≤ x9), 0)
def hold_place_1 (h1 : T_api_Hold) (id2 : Int) : Option Int :=
 (cmp_Compare_int h1.f_ID id2).bind fun x3 =>
 some x3
noncomputable def slices_BinarySearchFunc_Hold_Hold_int (x1 : List T_api_Hold) (target2 : Int) : Option (Int × Bool) :=
 ((loopO (fun (qj3 : Int × Int) => match qj3 with
   | (i4, j5) => (
    if (decide (i4 < j5)) = true then
     (rdO x1 (IntKind.wrap .i64 (Int.fdiv (IntKind.wrap .u64 (IntKind.wrap .i64 (i4 + j5))) 2))).bind fun x6 =>
     (hold_place_1 x6 target2).bind fun x7 =>
     if (decide (x7 < 0)) = true then
      some (.inl (IntKind.wrap .i64 ((IntKind.wrap .i64 (Int.fdiv (IntKind.wrap .u64 (IntKind.wrap .i64 (i4 + j5))) 2)) + 1), j5))
     else
      some (.inl (i4, IntKind.wrap .i64 (Int.fdiv (IntKind.wrap .u64 (IntKind.wrap .i64 (i4 + j5))) 2)))
    else
     some (.inr i4) : Option ((Int × Int) ⊕ Int))) (0, (x1.length : Int))) : Option Int).bind fun j3 =>
 (some (decide (j3 < (x1.length : Int)))).bind fun c9 =>
 (gdO c9 (rdO x1 j3) (default : T_api_Hold)).bind fun x10 =>
 (gdO c9 (hold_place_1 x10 target2) (default : Int)).bind fun x11 =>
 some (j3, (c9 && (x11 == 0)))
noncomputable def hold_place (l1 : List T_api_Hold) (id2 : Int) : Option (Int × Bool) :=
 (slices_BinarySearchFunc_Hold_Hold_int l1 id2).bind fun x3 =>
 some (x3.1, x3.2)
noncomputable def hold_Add (l1 : List T_api_Hold) (h2 : T_api_Hold) : Option ((List T_api_Hold) × Int) :=
 (hold_Check l1).bind fun x3 =>
 if (x3 != 0) = true then
  some (([] : List T_api_Hold), x3)
 else
  (hold_place l1 h2.f_ID).bind fun x4 =>
  (hold_right h2).bind fun x5 =>
  (some (!x5)).bind fun c6 =>
  (some (c6 || (decide (h2.f_Taken > 0)))).bind fun c7 =>
  if (c7 || h2.f_Done) = true then
   some (([] : List T_api_Hold), 1)
  else
   if x4.2 = true then
    some (([] : List T_api_Hold), 26)
   else
    if (decide ((l1.length : Int) ≥ 200)) = true then
     some (([] : List T_api_Hold), 6)
    else
     (slices_Clone 64 l1).bind fun x8 =>
     (insO 64 x8 x4.1 h2).bind fun x9 =>
     some (x9, 0)
noncomputable def avail_with (t1 : T_api_Till) (l2 : List T_api_Hold) : Option T_api_Till :=
 (slices_Clone 32 t1.f_Chart.f_Customers).bind fun x3 =>
 (slices_Clone 56 t1.f_Chart.f_Records).bind fun x4 =>
 ((loopO (fun (qj5 : Int × (List T_api_Posting)) => match qj5 with
   | (x6, row7) => (
    if (decide (x6 < (t1.f_L.length : Int))) = true then
     (rdO t1.f_L x6).bind fun x8 =>
     (slices_Clone 24 x8.f_Legs).bind fun x9 =>
     (apO 72 row7 [(⟨x8.f_ID, x8.f_Known, x8.f_Value, x9, x8.f_Reverses, x8.f_Kind, x8.f_Memo⟩ : T_api_Posting)]).bind fun x10 =>
     some (.inl (IntKind.wrap .i64 (x6 + 1), x10))
    else
     some (.inr row7) : Option ((Int × (List T_api_Posting)) ⊕ (List T_api_Posting)))) (0, ([] : List T_api_Posting))) : Option (List T_api_Posting)).bind fun j5 =>
 (slices_Clone 64 l2).bind fun x12 =>
 (slices_Clone 16 t1.f_Limits).bind fun x13 =>
 some (⟨(⟨x3, x4⟩ : T_api_Chart), j5, x12, x13⟩ : T_api_Till)
noncomputable def avail_Place (t1 : T_api_Till) (h2 : T_api_Hold) : Option (T_api_Till × Bool × Int) :=
 (avail_Right t1).bind fun x3 =>
 if (!x3) = true then
  some ((⟨(⟨([] : List T_api_Customer), ([] : List T_api_Record)⟩ : T_api_Chart), ([] : List T_api_Posting), ([] : List T_api_Hold), ([] : List T_api_Limit)⟩ : T_api_Till), false, 1)
 else
  (hold_Add t1.f_Holds h2).bind fun x4 =>
  if (x4.2 != 0) = true then
   some ((⟨(⟨([] : List T_api_Customer), ([] : List T_api_Record)⟩ : T_api_Chart), ([] : List T_api_Posting), ([] : List T_api_Hold), ([] : List T_api_Limit)⟩ : T_api_Till), false, x4.2)
  else
   (avail_ask t1 h2.f_Acc h2.f_Made).bind fun x5 =>
   if (Option.isSome x5.2) = true then
    (avail_whyOf x5.2).bind fun x6 =>
    some ((⟨(⟨([] : List T_api_Customer), ([] : List T_api_Record)⟩ : T_api_Chart), ([] : List T_api_Posting), ([] : List T_api_Hold), ([] : List T_api_Limit)⟩ : T_api_Till), false, x6)
   else
    if (h2.f_Amount.f_Cur != x5.1.f_cur) = true then
     some ((⟨(⟨([] : List T_api_Customer), ([] : List T_api_Record)⟩ : T_api_Chart), ([] : List T_api_Posting), ([] : List T_api_Hold), ([] : List T_api_Limit)⟩ : T_api_Till), false, 12)
    else
     (avail_account_free x5.1 t1 h2.f_Acc h2.f_Made h2.f_Rank).bind fun x7 =>
     if (decide (h2.f_Amount.f_Minor > x7)) = true then
      (avail_with t1 t1.f_Holds).bind fun x8 =>
      some (x8, false, 0)
     else
      (avail_with t1 x4.1).bind fun x9 =>
      some (x9, true, 0)
noncomputable def cashbooklaw26_AvailRanks (t1 : T_api_Till) (acc2 : Int) (now3 : Int) (amount4 : T_api_Money) : Option Bool :=
 (cashbooklaw26_few t1).bind fun x5 =>
 (avail_Funds x5 acc2 now3).bind fun x6 =>
 if (x6.2 != 0) = true then
  (cashbooklaw26_alive).bind fun x7 =>
  some (x7 && (x6.1 == 0))
 else
  (avail_Free (⟨x5.f_Chart, x5.f_L, ([] : List T_api_Hold), x5.f_Limits⟩ : T_api_Till) acc2 now3 0).bind fun x8 =>
  ((loopO (fun (qj9 : Int × Int) => match qj9 with
    | (last10, x11) => (
     if (decide (x11 < 10)) = true then
      (avail_Free x5 acc2 now3 x11).bind fun x12 =>
      (avail_Free (⟨x5.f_Chart, x5.f_L, ([] : List T_api_Hold), x5.f_Limits⟩ : T_api_Till) acc2 now3 x11).bind fun x13 =>
      (some (x12.2 != 0)).bind fun c14 =>
      (some (c14 || (x13.2 != 0))).bind fun c15 =>
      (some (c15 || (x13.1 != x8.1))).bind fun c16 =>
      (some (c16 || (decide (x12.1 > x8.1)))).bind fun c17 =>
      (some (decide (x11 > 0))).bind fun c18 =>
      if (c17 || (c18 && (decide (x12.1 < last10)))) = true then
       some (.inr (.inr false))
      else
       some (.inl (x12.1, IntKind.wrap .i64 (x11 + 1)))
     else
      some (.inr (.inl ())) : Option ((Int × Int) ⊕ (Unit ⊕ Bool)))) (0, 0)) : Option (Unit ⊕ Bool)).bind fun j9 => match j9 with
  | .inr o => some o
  | .inl _ =>
  (avail_Pay x5 acc2 amount4 now3).bind fun x19 =>
  (some (x8.2 != 0)).bind fun c20 =>
  (some (c20 || (decide (x8.1 < x6.1)))).bind fun c21 =>
  (gdO (!c21) (cashbooklaw26_alive) (default : Bool)).bind fun x22 =>
  if (c21 || (!x22)) = true then
   some false
  else
   (some (x19.2 != 0)).bind fun c23 =>
   if (c23 || (!x19.1)) = true then
    some (!x19.1)
   else
    ((loopO (fun (qj24 : Int × Int) => match qj24 with
      | (top25, x26) => (
       if (decide (x26 < (x5.f_Holds.length : Int))) = true then
        (rdO x5.f_Holds x26).bind fun x27 =>
        some (.inl ((if IntKind.wrap .i64 (x27.f_ID + 1) > top25 then IntKind.wrap .i64 (x27.f_ID + 1) else top25), IntKind.wrap .i64 (x26 + 1)))
       else
        some (.inr top25) : Option ((Int × Int) ⊕ Int))) (1, 0)) : Option Int).bind fun j24 =>
    (avail_Place x5 (⟨(if 1000000 < j24 then 1000000 else j24), acc2, amount4, 0, now3, now3, 0, false⟩ : T_api_Hold)).bind fun x29 =>
    (some (x29.2.2 == 0)).bind fun c30 =>
    (some (c30 && x29.2.1)).bind fun c31 =>
    (some (c31 && ((x29.1.f_Holds.length : Int) == (IntKind.wrap .i64 ((x5.f_Holds.length : Int) + 1))))).bind fun c32 =>
    (some (c32 || (x29.2.2 == 26))).bind fun c33 =>
    some (c33 || (x29.2.2 == 6))
end Go.Av.G
end
section
set_option linter.unusedVariables false
set_option linter.unusedSimpArgs false
set_option maxRecDepth 4000
set_option maxHeartbeats 4000000
namespace Go.Av.G
open Go Go.Av Go.Proofs
theorem gdO_some {α : Type} (g : Bool) (a d : α) : gdO g (some a) d = some (bif g then a else d) := by cases g <;> rfl
theorem gdO_and (g a : Bool) : gdO g (some a) (default : Bool) = some (g && a) := by cases g <;> rfl
def okC (x : T_api_Customer) : Bool := decide (1 ≤ x.f_ID ∧ x.f_ID ≤ 999 ∧ 1 ≤ x.f_Name.length ∧ x.f_Name.length ≤ 32 ∧ 0 ≤ x.f_Kind ∧ x.f_Kind ≤ 3) && !(x.f_Name.any fun b => decide (b.toNat < 32) || decide (126 < b.toNat))
theorem contains_eq (s : List UInt8) : strings_ContainsFunc chart_isCustomer_1 s = some (s.any fun b => decide (b.toNat < 32) || decide (126 < b.toNat)) := by
 rw [strings_ContainsFunc_eq (fun x => decide (x < 32) || decide (126 < x)) (by
  intro x
  simp only [chart_isCustomer_1, Option.bind_some, Option.some.injEq]
  rw [Bool.eq_iff_iff]
  simp
  omega)]
 rw [runes_bytes (p := fun x => decide (x < 32) || decide (126 < x)) (by intro x hx; simp; omega)]
theorem isCustomer_eq (x : T_api_Customer) : chart_isCustomer x = some (okC x) := by
 simp only [chart_isCustomer, chart_in_int, contains_eq, gdO_some, Option.bind_some, Option.some.injEq, okC, cond_eq_ite]
 rw [Bool.eq_iff_iff]
 generalize (x.f_Name.any fun b => decide (b.toNat < 32) || decide (126 < b.toNat)) = B
 cases B <;> simp <;> omega
def okR (r : T_api_Record) : Bool := decide (1 ≤ r.f_Acc ∧ r.f_Acc ≤ 999 ∧ 0 ≤ r.f_Kind ∧ r.f_Kind ≤ 3 ∧ 0 ≤ r.f_Cur ∧ r.f_Cur ≤ 3 ∧ 0 ≤ r.f_Customer ∧ r.f_Customer ≤ 999 ∧ 0 ≤ r.f_Product ∧ r.f_Product ≤ 20 ∧ 0 ≤ r.f_Partition ∧ r.f_Partition ≤ 3 ∧
 (r.f_Kind < 2 ∨ r.f_Customer = 0 ∧ r.f_Product = 0) ∧ -50000 ≤ r.f_From ∧ r.f_From ≤ r.f_To ∧ r.f_To ≤ 50000)
theorem isRecord_eq (r : T_api_Record) : chart_isRecord r = some (okR r) := by
 simp only [chart_isRecord, chart_in_int, chart_in_Account, chart_in_Currency, date_Right, gdO_and, Option.bind_some, okR]
 split
 ·rename_i h
  simp only [Option.some.injEq]
  rw [Bool.eq_iff_iff]
  simp at h ⊢
  omega
 ·rename_i h
  split
  ·rename_i h2
   simp only [Option.some.injEq]
   rw [Bool.eq_iff_iff]
   simp at h h2 ⊢
   omega
  ·rename_i h2
   simp only [Option.some.injEq]
   rw [Bool.eq_iff_iff]
   simp at h h2 ⊢
   omega
theorem chart_rises_Customer_int_spec (l : List T_api_Customer) (hn : l.length < 4611686018427387904) : ∃ b, chart_rises_Customer_int l = some b ∧ (b = true ↔ Rise (·.f_ID) l) := by
 unfold chart_rises_Customer_int
 rw [loopI_any1 (n := l.length) (o := (Sum.inr false : Unit ⊕ Bool)) (e := Sum.inl ()) (q := descends (fun x : T_api_Customer => x.f_ID) l) hn]
 ·have h := any_rise (key := fun x : T_api_Customer => x.f_ID) (l := l)
  generalize hB : (List.range' 1 (l.length - 1)).any (descends (fun x : T_api_Customer => x.f_ID) l) = B at h ⊢
  cases B with
  | true => exact ⟨false, rfl, by simpa using h⟩
  | false => exact ⟨true, rfl, by simpa using h⟩
 ·intro i h0 h
  have e1 : IntKind.wrap .i64 ((i : Int) - 1) = ((i - 1 : Nat) : Int) := by rw [wrap64 (by omega) (by omega)]; omega
  simp only [decide_eq_true_eq, e1]
  rw [if_pos (by omega), rdO_at (by omega), rdO_at h, descends_at h0 h]
  simp only [chart_idOf, Option.bind_some, decide_eq_true_eq]
  split <;> rfl
 ·intro i h
  simp only [decide_eq_true_eq]
  rw [if_neg (by omega)]
theorem chart_rises_Record_Account_spec (l : List T_api_Record) (hn : l.length < 4611686018427387904) : ∃ b, chart_rises_Record_Account l = some b ∧ (b = true ↔ Rise (·.f_Acc) l) := by
 unfold chart_rises_Record_Account
 rw [loopI_any1 (n := l.length) (o := (Sum.inr false : Unit ⊕ Bool)) (e := Sum.inl ()) (q := descends (fun x : T_api_Record => x.f_Acc) l) hn]
 ·have h := any_rise (key := fun x : T_api_Record => x.f_Acc) (l := l)
  generalize hB : (List.range' 1 (l.length - 1)).any (descends (fun x : T_api_Record => x.f_Acc) l) = B at h ⊢
  cases B with
  | true => exact ⟨false, rfl, by simpa using h⟩
  | false => exact ⟨true, rfl, by simpa using h⟩
 ·intro i h0 h
  have e1 : IntKind.wrap .i64 ((i : Int) - 1) = ((i - 1 : Nat) : Int) := by rw [wrap64 (by omega) (by omega)]; omega
  simp only [decide_eq_true_eq, e1]
  rw [if_pos (by omega), rdO_at (by omega), rdO_at h, descends_at h0 h]
  simp only [chart_accOf, Option.bind_some, decide_eq_true_eq]
  split <;> rfl
 ·intro i h
  simp only [decide_eq_true_eq]
  rw [if_neg (by omega)]
theorem chart_place_Customer_int_1_eq (x : T_api_Customer) (n : Int) : chart_place_Customer_int_1 x n = some (if x.f_ID < n then -1 else if x.f_ID > n then 1 else 0) := by
 simp only [chart_place_Customer_int_1, chart_idOf, cmp_Compare_int, cmp_isNaN_int, Option.bind_some, bne_self_eq_false, Bool.false_eq_true, if_false, decide_eq_true_eq]
 split
 ·rfl
 ·split <;> rfl
theorem chart_place_Customer_int_spec (l : List T_api_Customer) (n : Int) (hn : l.length < 4611686018427387904) (hr : Rise (·.f_ID) l) :
  ∃ (k : Nat) (b : Bool), chart_place_Customer_int l n = some ((k : Int), b) ∧ k ≤ l.length ∧ (b = true → ∃ h : k < l.length, l[k].f_ID = n) ∧ (b = false → ∀ x ∈ l, x.f_ID ≠ n) ∧ (∀ i (hi : i < l.length), i < k → l[i].f_ID < n) ∧ (b = false → ∀ i (hi : i < l.length), k ≤ i → n < l[i].f_ID) := by
 have hbs : ∃ (k : Nat) (b : Bool), slices_BinarySearchFunc_Customer_Customer_int l n = some ((k : Int), b) ∧ k ≤ l.length ∧ (b = true → ∃ h : k < l.length, l[k].f_ID = n) ∧ (b = false → ∀ x ∈ l, x.f_ID ≠ n) ∧ (∀ i (hi : i < l.length), i < k → l[i].f_ID < n) ∧ (b = false → ∀ i (hi : i < l.length), k ≤ i → n < l[i].f_ID) := by
  unfold slices_BinarySearchFunc_Customer_Customer_int
  obtain ⟨k, hk, hl, h1, h2⟩ := bsearch (n := l.length) (lt := fun i => (l[i]?).any fun x => decide (x.f_ID < n)) (f := fun (qj3 : Int × Int) => match qj3 with
  | (i4, j5) => (
   if (decide (i4 < j5)) = true then
    (rdO l (IntKind.wrap .i64 (Int.fdiv (IntKind.wrap .u64 (IntKind.wrap .i64 (i4 + j5))) 2))).bind fun x7 =>
    (chart_place_Customer_int_1 x7 n).bind fun x8 =>
    if (decide (x8 < 0)) = true then
     some (.inl (IntKind.wrap .i64 ((IntKind.wrap .i64 (Int.fdiv (IntKind.wrap .u64 (IntKind.wrap .i64 (i4 + j5))) 2)) + 1), j5))
    else
     some (.inl (i4, IntKind.wrap .i64 (Int.fdiv (IntKind.wrap .u64 (IntKind.wrap .i64 (i4 + j5))) 2)))
   else
    some (.inr i4))) hn
   (by
    intro i j hij hj
    simp only [decide_eq_true_eq, half hij (show j < 4611686018427387904 by omega)]
    have hm : (i + j) / 2 < l.length := by omega
    rw [if_pos (by omega), rdO_at hm]
    simp only [Option.bind_some, chart_place_Customer_int_1_eq]
    rw [List.getElem?_eq_getElem hm]
    have e : IntKind.wrap .i64 ((((i + j) / 2 : Nat) : Int) + 1) = (((i + j) / 2 + 1 : Nat) : Int) := by rw [wrap64 (by omega) (by omega)]; rfl
    by_cases h : (l[(i + j) / 2]).f_ID < n
    ·simp [h]
     exact e
    ·simp [h]
     split <;> simp)
   (by
    intro i
    simp only [decide_eq_true_eq]
    rw [if_neg (by omega)])
  have hless : ∀ i (hi : i < l.length), i < k → l[i].f_ID < n := by
   intro i hi hik
   have h3 := h1 (by omega)
   rw [List.getElem?_eq_getElem (by omega)] at h3
   simp only [Option.any_some, decide_eq_true_eq] at h3
   by_cases he : i = k - 1
   ·subst he; exact h3
   ·have := hr.lt (j := k - 1) (i := i) (by omega) (by omega)
    try simp only at this
    omega
  rw [hl]
  simp only [Option.bind_some]
  by_cases hkl : k < l.length
  ·have h4 := h2 hkl
   rw [List.getElem?_eq_getElem hkl] at h4
   simp only [Option.any_some, decide_eq_false_iff_not] at h4
   have hdec : decide ((k : Int) < (l.length : Int)) = true := by simpa using hkl
   rw [hdec]
   simp only [gdO, rdO_at hkl, Option.bind_some, chart_place_Customer_int_1_eq, Bool.true_and]
   by_cases he : l[k].f_ID = n
   ·refine ⟨k, true, ?_, hk, fun _ => ⟨hkl, he⟩, (fun h => by cases h), hless, (fun h => by cases h)⟩
    simp [he]
   ·have hup : ∀ i (hi : i < l.length), k ≤ i → n < l[i].f_ID := fun i hi hik => by
     have : ¬ l[k].f_ID < n := h4
     have h5 : l[k].f_ID > n := by omega
     by_cases hik' : i = k
     ·subst hik'; omega
     ·have := hr.lt (j := i) (i := k) hi (by omega)
      try simp only at this
      omega
    refine ⟨k, false, ?_, hk, (fun h => by cases h), (fun _ x hx hxn => ?_), hless, fun _ => hup⟩
    ·have : ¬ l[k].f_ID < n := h4
     have h5 : l[k].f_ID > n := by omega
     simp [this, h5]
    ·obtain ⟨i, hi, rfl⟩ := List.getElem_of_mem hx
     by_cases hik : i < k
     ·have := hless i hi hik; omega
     ·by_cases hik' : i = k
      ·subst hik'; exact he hxn
      ·have := hr.lt (j := i) (i := k) hi (by omega)
       try simp only at this
       omega
  ·have hdec : decide ((k : Int) < (l.length : Int)) = false := by simpa using hkl
   rw [hdec]
   simp only [gdO, Option.bind_some, Bool.false_and]
   refine ⟨k, false, rfl, hk, (fun h => by cases h), (fun _ x hx hxn => ?_), hless, fun _ i hi hik => by omega⟩
   obtain ⟨i, hi, rfl⟩ := List.getElem_of_mem hx
   have := hless i hi (by omega)
   omega
 obtain ⟨k, b, h1, hk, h2, h3, h4, h5⟩ := hbs
 refine ⟨k, b, ?_, hk, h2, h3, h4, h5⟩
 unfold chart_place_Customer_int
 rw [h1]
 rfl
theorem chart_place_Record_Account_1_eq (x : T_api_Record) (n : Int) : chart_place_Record_Account_1 x n = some (if x.f_Acc < n then -1 else if x.f_Acc > n then 1 else 0) := by
 simp only [chart_place_Record_Account_1, chart_accOf, cmp_Compare_Account, cmp_isNaN_Account, Option.bind_some, bne_self_eq_false, Bool.false_eq_true, if_false, decide_eq_true_eq]
 split
 ·rfl
 ·split <;> rfl
theorem chart_place_Record_Account_spec (l : List T_api_Record) (n : Int) (hn : l.length < 4611686018427387904) (hr : Rise (·.f_Acc) l) :
  ∃ (k : Nat) (b : Bool), chart_place_Record_Account l n = some ((k : Int), b) ∧ k ≤ l.length ∧ (b = true → ∃ h : k < l.length, l[k].f_Acc = n) ∧ (b = false → ∀ x ∈ l, x.f_Acc ≠ n) ∧ (∀ i (hi : i < l.length), i < k → l[i].f_Acc < n) ∧ (b = false → ∀ i (hi : i < l.length), k ≤ i → n < l[i].f_Acc) := by
 have hbs : ∃ (k : Nat) (b : Bool), slices_BinarySearchFunc_Record_Record_Account l n = some ((k : Int), b) ∧ k ≤ l.length ∧ (b = true → ∃ h : k < l.length, l[k].f_Acc = n) ∧ (b = false → ∀ x ∈ l, x.f_Acc ≠ n) ∧ (∀ i (hi : i < l.length), i < k → l[i].f_Acc < n) ∧ (b = false → ∀ i (hi : i < l.length), k ≤ i → n < l[i].f_Acc) := by
  unfold slices_BinarySearchFunc_Record_Record_Account
  obtain ⟨k, hk, hl, h1, h2⟩ := bsearch (n := l.length) (lt := fun i => (l[i]?).any fun x => decide (x.f_Acc < n)) (f := fun (qj3 : Int × Int) => match qj3 with
  | (i4, j5) => (
   if (decide (i4 < j5)) = true then
    (rdO l (IntKind.wrap .i64 (Int.fdiv (IntKind.wrap .u64 (IntKind.wrap .i64 (i4 + j5))) 2))).bind fun x7 =>
    (chart_place_Record_Account_1 x7 n).bind fun x8 =>
    if (decide (x8 < 0)) = true then
     some (.inl (IntKind.wrap .i64 ((IntKind.wrap .i64 (Int.fdiv (IntKind.wrap .u64 (IntKind.wrap .i64 (i4 + j5))) 2)) + 1), j5))
    else
     some (.inl (i4, IntKind.wrap .i64 (Int.fdiv (IntKind.wrap .u64 (IntKind.wrap .i64 (i4 + j5))) 2)))
   else
    some (.inr i4))) hn
   (by
    intro i j hij hj
    simp only [decide_eq_true_eq, half hij (show j < 4611686018427387904 by omega)]
    have hm : (i + j) / 2 < l.length := by omega
    rw [if_pos (by omega), rdO_at hm]
    simp only [Option.bind_some, chart_place_Record_Account_1_eq]
    rw [List.getElem?_eq_getElem hm]
    have e : IntKind.wrap .i64 ((((i + j) / 2 : Nat) : Int) + 1) = (((i + j) / 2 + 1 : Nat) : Int) := by rw [wrap64 (by omega) (by omega)]; rfl
    by_cases h : (l[(i + j) / 2]).f_Acc < n
    ·simp [h]
     exact e
    ·simp [h]
     split <;> simp)
   (by
    intro i
    simp only [decide_eq_true_eq]
    rw [if_neg (by omega)])
  have hless : ∀ i (hi : i < l.length), i < k → l[i].f_Acc < n := by
   intro i hi hik
   have h3 := h1 (by omega)
   rw [List.getElem?_eq_getElem (by omega)] at h3
   simp only [Option.any_some, decide_eq_true_eq] at h3
   by_cases he : i = k - 1
   ·subst he; exact h3
   ·have := hr.lt (j := k - 1) (i := i) (by omega) (by omega)
    try simp only at this
    omega
  rw [hl]
  simp only [Option.bind_some]
  by_cases hkl : k < l.length
  ·have h4 := h2 hkl
   rw [List.getElem?_eq_getElem hkl] at h4
   simp only [Option.any_some, decide_eq_false_iff_not] at h4
   have hdec : decide ((k : Int) < (l.length : Int)) = true := by simpa using hkl
   rw [hdec]
   simp only [gdO, rdO_at hkl, Option.bind_some, chart_place_Record_Account_1_eq, Bool.true_and]
   by_cases he : l[k].f_Acc = n
   ·refine ⟨k, true, ?_, hk, fun _ => ⟨hkl, he⟩, (fun h => by cases h), hless, (fun h => by cases h)⟩
    simp [he]
   ·have hup : ∀ i (hi : i < l.length), k ≤ i → n < l[i].f_Acc := fun i hi hik => by
     have : ¬ l[k].f_Acc < n := h4
     have h5 : l[k].f_Acc > n := by omega
     by_cases hik' : i = k
     ·subst hik'; omega
     ·have := hr.lt (j := i) (i := k) hi (by omega)
      try simp only at this
      omega
    refine ⟨k, false, ?_, hk, (fun h => by cases h), (fun _ x hx hxn => ?_), hless, fun _ => hup⟩
    ·have : ¬ l[k].f_Acc < n := h4
     have h5 : l[k].f_Acc > n := by omega
     simp [this, h5]
    ·obtain ⟨i, hi, rfl⟩ := List.getElem_of_mem hx
     by_cases hik : i < k
     ·have := hless i hi hik; omega
     ·by_cases hik' : i = k
      ·subst hik'; exact he hxn
      ·have := hr.lt (j := i) (i := k) hi (by omega)
       try simp only at this
       omega
  ·have hdec : decide ((k : Int) < (l.length : Int)) = false := by simpa using hkl
   rw [hdec]
   simp only [gdO, Option.bind_some, Bool.false_and]
   refine ⟨k, false, rfl, hk, (fun h => by cases h), (fun _ x hx hxn => ?_), hless, fun _ i hi hik => by omega⟩
   obtain ⟨i, hi, rfl⟩ := List.getElem_of_mem hx
   have := hless i hi (by omega)
   omega
 obtain ⟨k, b, h1, hk, h2, h3, h4, h5⟩ := hbs
 refine ⟨k, b, ?_, hk, h2, h3, h4, h5⟩
 unfold chart_place_Record_Account
 rw [h1]
 rfl
theorem fst_neg {α : Type} (l : List α) (p : α → Bool) : decide ((match fstIdx l p with | some i => ((i : Nat) : Int) | none => -1) ≥ 0) = l.any p := by
 cases h : fstIdx l p with
 | some i =>
  obtain ⟨hi, hp, _⟩ := fstIdx_some h
  have : l.any p = true := List.any_eq_true.2 ⟨_, List.getElem_mem hi, hp⟩
  simp [this]
 | none =>
  have : l.any p = false := by simpa using fstIdx_none h
  simp [this]
theorem idxC_eq (l : List T_api_Customer) (hn : l.length < 4611686018427387904) : slices_ContainsFunc_Customer_Customer l = some (l.any fun x => !okC x) := by
 unfold slices_ContainsFunc_Customer_Customer slices_IndexFunc_Customer_Customer
 rw [loopL_idx (l := l) (fun x => !okC x) (o := fun i => (Sum.inr (i : Int) : Unit ⊕ Int)) (e := Sum.inl ()) hn]
 ·rw [← fst_neg]
  cases fstIdx l fun x => !okC x <;> rfl
 ·intro i h
  simp only [decide_eq_true_eq]
  rw [if_pos (by omega), rdO_at h]
  simp only [Option.bind_some, chart_Right_1, isCustomer_eq]
  split <;> rfl
 ·intro i h
  simp only [decide_eq_true_eq]
  rw [if_neg (by omega)]
def badR (c : T_api_Chart) (r : T_api_Record) : Bool := !okR r || (decide (0 < r.f_Customer) && !(c.f_Customers.any fun x => x.f_ID == r.f_Customer))
theorem place_any {l : List T_api_Customer} {n : Int} {k : Nat} {b : Bool} (h1 : b = true → ∃ h : k < l.length, l[k].f_ID = n) (h2 : b = false → ∀ x ∈ l, x.f_ID ≠ n) : (l.any fun x => x.f_ID == n) = b := by
 cases b with
 | true =>
  obtain ⟨h, he⟩ := h1 rfl
  exact List.any_eq_true.2 ⟨_, List.getElem_mem h, by simpa using he⟩
 | false => simpa using h2 rfl
theorem right2_eq (c : T_api_Chart) (r : T_api_Record) (hn : c.f_Customers.length < 4611686018427387904) (hr : Rise (·.f_ID) c.f_Customers) : chart_Right_2 r c = some (badR c r) := by
 obtain ⟨k, b, h1, _, h2, h3, _, _⟩ := chart_place_Customer_int_spec c.f_Customers r.f_Customer hn hr
 unfold chart_Right_2 badR
 rw [h1, place_any h2 h3]
 simp only [Option.bind_some, isRecord_eq, gt_iff_lt]
theorem idxR_eq (c : T_api_Chart) (hc : c.f_Customers.length < 4611686018427387904) (hn : c.f_Records.length < 4611686018427387904) (hr : Rise (·.f_ID) c.f_Customers) : slices_ContainsFunc_Record_Record c.f_Records c = some (c.f_Records.any (badR c)) := by
 unfold slices_ContainsFunc_Record_Record slices_IndexFunc_Record_Record
 rw [loopL_idx (l := c.f_Records) (badR c) (o := fun i => (Sum.inr (i : Int) : Unit ⊕ Int)) (e := Sum.inl ()) hn]
 ·rw [← fst_neg]
  cases fstIdx c.f_Records (badR c) <;> rfl
 ·intro i h
  simp only [decide_eq_true_eq]
  rw [if_pos (by omega), rdO_at h]
  simp only [Option.bind_some, right2_eq c _ hc hr]
  split <;> rfl
 ·intro i h
  simp only [decide_eq_true_eq]
  rw [if_neg (by omega)]
def RightP (c : T_api_Chart) : Prop := c.f_Customers.length ≤ 100 ∧ c.f_Records.length ≤ 200 ∧ Rise (·.f_ID) c.f_Customers ∧ Rise (·.f_Acc) c.f_Records ∧ (∀ x ∈ c.f_Customers, okC x = true) ∧ ∀ r ∈ c.f_Records, badR c r = false
theorem Right_spec (c : T_api_Chart) (hc : c.f_Customers.length < 4611686018427387904) (hn : c.f_Records.length < 4611686018427387904) : ∃ b, chart_Right c = some b ∧ (b = true ↔ RightP c) := by
 unfold chart_Right
 obtain ⟨b1, e1, h1⟩ := chart_rises_Customer_int_spec c.f_Customers hc
 obtain ⟨b2, e2, h2⟩ := chart_rises_Record_Account_spec c.f_Records hn
 simp only [e1, e2, gdO_and, Option.bind_some, idxC_eq _ hc]
 by_cases hA : c.f_Customers.length ≤ 100 ∧ c.f_Records.length ≤ 200 ∧ b1 = true ∧ b2 = true
 ·obtain ⟨a1, a2, rfl, rfl⟩ := hA
  have d1 : decide ((c.f_Customers.length : Int) > 100) = false := by simp; omega
  have d2 : decide ((c.f_Records.length : Int) > 200) = false := by simp; omega
  have hr1 := h1.1 rfl
  have hr2 := h2.1 rfl
  simp only [d1, d2, Bool.or_false, Bool.not_false, Bool.true_and, Bool.not_true, Bool.false_eq_true, if_false, idxR_eq c hc hn hr1, Option.bind_some]
  cases hB : c.f_Customers.any fun x => !okC x with
  | true =>
   refine ⟨false, rfl, by simp, fun h => ?_⟩
   obtain ⟨x, hx, hb⟩ := List.any_eq_true.1 hB
   have := h.2.2.2.2.1 x hx
   simp [this] at hb
  | false =>
   simp only [Bool.false_eq_true, if_false]
   refine ⟨_, rfl, ?_⟩
   have hC : ∀ x ∈ c.f_Customers, okC x = true := by simpa using hB
   unfold RightP
   simp only [a1, a2, hr1, hr2, true_and]
   simpa using fun _ => hC
 ·refine ⟨false, ?_, by simp, fun h => absurd ⟨h.1, h.2.1, h1.2 h.2.2.1, h2.2 h.2.2.2.1⟩ hA⟩
  rw [if_pos]
  by_cases a1 : c.f_Customers.length ≤ 100
  ·by_cases a2 : c.f_Records.length ≤ 200
   ·cases b1 <;> cases b2 <;> simp_all
   ·have : (c.f_Records.length : Int) > 200 := by omega
    simp [this]
  ·have : (c.f_Customers.length : Int) > 100 := by omega
   simp [this]
def Fits (c : T_api_Chart) : Prop := c.f_Customers.length < 1000 ∧ c.f_Records.length < 1000 ∧ ∀ x ∈ c.f_Customers, x.f_Name.length ≤ 9223372036854775807
theorem Right_at {c : T_api_Chart} (hf : Fits c) (h : RightP c) : chart_Right c = some true := by
 obtain ⟨b, e, hb⟩ := Right_spec c (by have := hf.1; omega) (by have := hf.2.1; omega)
 rw [e, hb.2 h]
theorem placeR_at {l : List T_api_Record} {a : Int} (hn : l.length < 1000) (hr : Rise (·.f_Acc) l) {i : Nat} (h : i < l.length) (he : l[i].f_Acc = a) : chart_place_Record_Account l a = some ((i : Int), true) := by
 obtain ⟨k, b, e, _, h1, h2, _, _⟩ := chart_place_Record_Account_spec l a (by omega) hr
 cases b with
 | false => exact absurd he (h2 rfl _ (List.getElem_mem h))
 | true =>
  obtain ⟨hk, he'⟩ := h1 rfl
  rw [e, hr.inj hk h (by omega)]
theorem placeR_none {l : List T_api_Record} {a : Int} (hn : l.length < 1000) (hr : Rise (·.f_Acc) l) (h : ∀ x ∈ l, x.f_Acc ≠ a) : ∃ k : Nat, k ≤ l.length ∧ chart_place_Record_Account l a = some ((k : Int), false) := by
 obtain ⟨k, b, e, hk, h1, h2, hlo, hup⟩ := chart_place_Record_Account_spec l a (by omega) hr
 cases b with
 | false => exact ⟨k, hk, e⟩
 | true =>
  obtain ⟨hk, he'⟩ := h1 rfl
  exact absurd he' (h _ (List.getElem_mem hk))
theorem Find_none {c : T_api_Chart} (hf : Fits c) (h : RightP c) {a : Int} (hn : ∀ x ∈ c.f_Records, x.f_Acc ≠ a) : chart_Find c a = some (⟨0, 0, 0, 0, 0, 0, 0, 0⟩, 8) := by
 unfold chart_Find
 obtain ⟨k, _, e⟩ := placeR_none hf.2.1 h.2.2.2.1 hn
 rw [Right_at hf h, e]
 rfl
theorem Find_at {c : T_api_Chart} (hf : Fits c) (h : RightP c) {a : Int} {i : Nat} (hi : i < c.f_Records.length) (he : c.f_Records[i].f_Acc = a) : chart_Find c a = some (c.f_Records[i], 0) := by
 unfold chart_Find
 rw [Right_at hf h, placeR_at hf.2.1 h.2.2.2.1 hi he]
 simp only [Option.bind_some, rdO_at hi]
 rfl
theorem slO_take {α : Type} {l : List α} {h : Int} (h0 : 0 ≤ h) (h1 : h ≤ l.length) : slO l 0 h = some (l.take h.toNat) := by
 unfold slO
 rw [if_pos ⟨by omega, h0, h1⟩]
 rfl
theorem slO_cap {α : Type} (l : List α) (m : Nat) : slO l 0 (if (m : Int) < (l.length : Int) then (m : Int) else (l.length : Int)) = some (l.take m) := by
 split
 ·rw [slO_take (by omega) (by omega)]; simp
 ·rw [slO_take (by omega) (by omega)]
  simp only [Int.toNat_natCast, Option.some.injEq]
  rw [List.take_of_length_le (Nat.le_refl _), List.take_of_length_le (by omega)]
theorem Is_at {c : T_api_Chart} (hf : Fits c) (h : RightP c) {a d : Int} {i : Nat} (hi : i < c.f_Records.length) (he : c.f_Records[i].f_Acc = a) : chart_Is c a d = some (if (decide (-50000 ≤ d) && decide (d ≤ 50000)) = true then (decide (d ≥ c.f_Records[i].f_From) && decide (d ≤ c.f_Records[i].f_To), 0) else (false, 11)) := by
 unfold chart_Is
 rw [Find_at hf h hi he]
 simp only [Option.bind_some, date_Right, chart_in_Date, ge_iff_le]
 cases (decide (-50000 ≤ d) && decide (d ≤ 50000)) <;> rfl
theorem any_idx {n : Nat} {q : Nat → Bool} : (List.range' 0 n).any q = false ↔ ∀ i, i < n → q i = false := by
 rw [List.any_eq_false]
 constructor
 ·intro h i hi; have := h i (by simpa using hi); simpa using this
 ·intro h i hi; have := h i (by simpa using hi); simpa using this
theorem descends_rise {α : Type} {key : α → Int} {l : List α} : (∀ i, i < l.length → (decide (0 < i) && descends key l i) = false) ↔ Rise key l := by
 constructor
 ·intro h i hi
  have := h (i + 1) hi
  rw [descends_at (by omega) hi] at this
  simp at this
  omega
 ·intro h i hi
  cases i with
  | zero => rfl
  | succ i =>
   rw [descends_at (by omega) hi]
   have := h i hi
   simp
   omega
theorem wN {x : Int} {n : Nat} (h : x = n) (hn : n < 4611686018427387904) : IntKind.wrap .i64 x = (n : Int) := by
 subst h
 exact wrap64 (by omega) (by omega)
theorem rd_mid {α : Type} {A B : List α} {x : α} {n : Nat} (h : n = A.length) : rdO (A ++ x :: B) (n : Int) = some x := by
 subst h
 rw [rdO_at (by simp)]
 simp
def okH (h : T_api_Hold) : Bool := decide (1 ≤ h.f_ID ∧ h.f_ID ≤ 1000000 ∧ 1 ≤ h.f_Acc ∧ h.f_Acc ≤ 999 ∧ 0 ≤ h.f_Rank ∧ h.f_Rank ≤ 9 ∧ 0 ≤ h.f_Amount.f_Cur ∧ h.f_Amount.f_Cur < 4 ∧ 0 < h.f_Amount.f_Minor ∧ h.f_Amount.f_Minor ≤ 1000000000000000 ∧
 0 ≤ h.f_Taken ∧ h.f_Taken ≤ h.f_Amount.f_Minor ∧ -50000 ≤ h.f_Made ∧ h.f_Made ≤ h.f_Until ∧ h.f_Until ≤ 50000)
def okM (m : T_api_Money) : Bool := decide (0 ≤ m.f_Cur ∧ m.f_Cur < 4 ∧ -1000000000000000 ≤ m.f_Minor ∧ m.f_Minor ≤ 1000000000000000)
theorem moneyRight_eq (m : T_api_Money) : money_Right m = some (okM m) := by
 simp only [money_Right, money_is, Option.bind_some, Option.some.injEq, okM]
 rw [Bool.eq_iff_iff]
 simp
 omega
theorem right_eq (h : T_api_Hold) : hold_right h = some (okH h) := by
 simp only [hold_right, moneyRight_eq, date_Right, gdO_and, Option.bind_some, Option.some.injEq, okH, okM]
 rw [Bool.eq_iff_iff]
 simp
 omega
def liveH (h : T_api_Hold) (now : Int) : Bool := okH h && !h.f_Done && decide (h.f_Made ≤ now ∧ now ≤ h.f_Until)
def restH (h : T_api_Hold) (now : Int) : Int := if liveH h now = true then h.f_Amount.f_Minor - h.f_Taken else 0
theorem live_eq (h : T_api_Hold) (now : Int) : hold_Live h now = some (liveH h now) := by
 simp only [hold_Live, right_eq, Option.bind_some, Option.some.injEq, liveH]
 rw [Bool.eq_iff_iff]
 simp [and_assoc]
theorem okH_spec {h : T_api_Hold} (hk : okH h = true) : 1 ≤ h.f_ID ∧ h.f_ID ≤ 1000000 ∧ 1 ≤ h.f_Acc ∧ h.f_Acc ≤ 999 ∧ 0 ≤ h.f_Rank ∧ h.f_Rank ≤ 9 ∧ 0 ≤ h.f_Amount.f_Cur ∧ h.f_Amount.f_Cur < 4 ∧ 0 < h.f_Amount.f_Minor ∧ h.f_Amount.f_Minor ≤ 1000000000000000 ∧
 0 ≤ h.f_Taken ∧ h.f_Taken ≤ h.f_Amount.f_Minor ∧ -50000 ≤ h.f_Made ∧ h.f_Made ≤ h.f_Until ∧ h.f_Until ≤ 50000 := of_decide_eq_true hk
theorem live_ok {h : T_api_Hold} {now : Int} (hl : liveH h now = true) : okH h = true := by
 unfold liveH at hl
 simp only [Bool.and_eq_true] at hl
 exact hl.1.1
theorem restH_range (h : T_api_Hold) (now : Int) : 0 ≤ restH h now ∧ restH h now ≤ 1000000000000000 := by
 unfold restH
 split
 ·rename_i hl
  have := okH_spec (live_ok hl)
  omega
 ·omega
theorem rest_eq (h : T_api_Hold) (now : Int) : hold_Rest h now = some (restH h now) := by
 simp only [hold_Rest, live_eq, Option.bind_some]
 unfold restH
 cases hl : liveH h now with
 | false => rfl
 | true =>
  have := okH_spec (live_ok hl)
  simp only [Bool.not_true, Bool.false_eq_true, if_false, if_true]
  rw [wrap64 (by omega) (by omega)]
def badI (l : List T_api_Hold) : Bool := (List.range' 1 (l.length - 1)).any (descends (fun x : T_api_Hold => x.f_ID) l)
def chkH (l : List T_api_Hold) : Int := if (l.any fun x => !okH x) = true then 1 else if badI l = true then 20 else if 200 < l.length then 6 else 0
structure GoodL (l : List T_api_Hold) : Prop where
 ok : ∀ x ∈ l, okH x = true
 rise : Rise (fun x : T_api_Hold => x.f_ID) l
 few : l.length ≤ 200
theorem chkH_good {l : List T_api_Hold} : chkH l = 0 ↔ GoodL l := by
 have h := any_rise (key := fun x : T_api_Hold => x.f_ID) (l := l)
 unfold chkH badI
 constructor
 ·intro hc
  split at hc
  ·cases hc
  ·rename_i h1
   split at hc
   ·cases hc
   ·rename_i h2
    split at hc
    ·cases hc
    ·rename_i h3
     refine ⟨by simpa using h1, Classical.byContradiction fun hr => h2 (h.2 hr), by omega⟩
 ·intro hg
  rw [if_neg (by simpa using hg.ok), if_neg (fun hb => h.1 hb hg.rise), if_neg (by have := hg.few; omega)]
theorem hcont_eq (l : List T_api_Hold) (hn : l.length < 4611686018427387904) : slices_ContainsFunc_Hold_Hold l = some (l.any fun x => !okH x) := by
 unfold slices_ContainsFunc_Hold_Hold slices_IndexFunc_Hold_Hold
 rw [loopL_idx (l := l) (fun x => !okH x) (o := fun i => (Sum.inr (i : Int) : Unit ⊕ Int)) (e := Sum.inl ()) hn]
 ·rw [← fst_neg]
  cases fstIdx l fun x => !okH x <;> rfl
 ·intro i h
  simp only [decide_eq_true_eq]
  rw [if_pos (by omega), rdO_at h]
  simp only [Option.bind_some, hold_Check_1, right_eq]
  split <;> rfl
 ·intro i h
  simp only [decide_eq_true_eq]
  rw [if_neg (by omega)]
theorem check_eq (l : List T_api_Hold) (hn : l.length < 4611686018427387904) : hold_Check l = some (chkH l) := by
 unfold hold_Check
 rw [hcont_eq l hn]
 simp only [Option.bind_some]
 unfold chkH
 split
 ·rfl
 ·rw [loopI_any1 (n := l.length) (o := (Sum.inr 20 : Unit ⊕ Int)) (e := Sum.inl ()) (q := descends (fun x : T_api_Hold => x.f_ID) l) hn]
  ·unfold badI
   cases (List.range' 1 (l.length - 1)).any (descends (fun x : T_api_Hold => x.f_ID) l) with
   | true => rfl
   | false =>
    simp only [Bool.false_eq_true, if_false, Option.bind_some, decide_eq_true_eq]
    by_cases h : 200 < l.length
    ·rw [if_pos h, if_pos (by omega)]
    ·rw [if_neg h, if_neg (by omega)]
  ·intro i h0 h
   have e1 : IntKind.wrap .i64 ((i : Int) - 1) = ((i - 1 : Nat) : Int) := by rw [wrap64 (by omega) (by omega)]; omega
   simp only [decide_eq_true_eq, e1]
   rw [if_pos (by omega), rdO_at (by omega), rdO_at h, descends_at h0 h]
   simp only [Option.bind_some, decide_eq_true_eq]
   split <;> rfl
  ·intro i h
   simp only [decide_eq_true_eq]
   rw [if_neg (by omega)]
theorem loopG {S O : Type} {f : S → Option (S ⊕ O)} {n : Nat} (g : Nat → S) {o : O} (hin : ∀ k, k < n → f (g k) = some (.inl (g (k + 1)))) (hout : f (g n) = some (.inr o)) : loopO f (g 0) = some o := by
 have key : ∀ k, k ≤ n → loopO f (g 0) = loopO f (g k) := by
  intro k
  induction k with
  | zero => intro _; rfl
  | succ k ih => intro hk; rw [ih (by omega), loopO_on (hin k (by omega))]
 rw [key n (Nat.le_refl _), loopO_out hout]
theorem wrapS {k : Nat} (h : k < 4611686018427387904) : IntKind.wrap .i64 ((k : Int) + 1) = ((k + 1 : Nat) : Int) := by rw [wrap64 (by omega) (by omega)]; rfl
theorem apO_eq {α : Type} {n : Nat} {xs ys : List α} (h : (xs.length + ys.length) * n ≤ 140737488355328) : apO n xs ys = some (xs ++ ys) := by
 unfold apO
 rw [if_pos h]
def selB (acc cur now : Int) (h : T_api_Hold) : Bool := h.f_Acc == acc && (h.f_Amount.f_Cur == cur && liveH h now)
def wH (acc cur now rank : Int) (h : T_api_Hold) : Int := if h.f_Acc = acc ∧ h.f_Amount.f_Cur = cur ∧ rank ≤ h.f_Rank then restH h now else 0
def sumL (l : List T_api_Hold) (acc cur now rank : Int) : Int := (l.map (wH acc cur now rank)).sum
theorem sel_eq (acc cur now : Int) (h : T_api_Hold) : selO acc cur now h = some (selB acc cur now h) := by
 unfold selO selB
 rw [live_eq]
 cases h.f_Acc == acc with
 | false => rfl
 | true =>
  cases h.f_Amount.f_Cur == cur with
  | false => rfl
  | true => rfl
theorem it_eq (acc cur now : Int) : ∀ l : List T_api_Hold, itO acc cur now l = some (l.filter (selB acc cur now))
 | [] => rfl
 | h :: t => by
  simp only [itO, sel_eq, it_eq acc cur now t, Option.bind_some, Option.map_some, List.filter_cons, Option.some.injEq]
  cases selB acc cur now h <;> rfl
theorem those_eq {l : List T_api_Hold} (hn : l.length ≤ 1000) (acc cur now : Int) : hold_those l acc cur now = some (l.filter (selB acc cur now)) := by
 unfold hold_those
 rw [if_pos (by omega), it_eq]
theorem wH_range (acc cur now rank : Int) (h : T_api_Hold) : 0 ≤ wH acc cur now rank h ∧ wH acc cur now rank h ≤ 1000000000000000 := by
 unfold wH
 split
 ·exact restH_range h now
 ·omega
theorem sumL_range (acc cur now rank : Int) : ∀ l : List T_api_Hold, 0 ≤ sumL l acc cur now rank ∧ sumL l acc cur now rank ≤ l.length * 1000000000000000
 | [] => by simp [sumL]
 | h :: t => by
  have h1 := wH_range acc cur now rank h
  have h2 := sumL_range acc cur now rank t
  unfold sumL at h2 ⊢
  simp only [List.map_cons, List.sum_cons, List.length_cons]
  omega
theorem sum_fold (acc cur now rank : Int) : ∀ (l : List T_api_Hold) (n : Int), 0 ≤ n → n + l.length * 1000000000000000 ≤ 4000000000000000000 → foldO (sumStep now rank) n (l.filter (selB acc cur now)) = some (n + sumL l acc cur now rank)
 | [], n, _, _ => by simp [foldO, sumL]
 | h :: t, n, h0, h1 => by
  simp only [List.length_cons] at h1
  have hr := restH_range h now
  have e : sumL (h :: t) acc cur now rank = wH acc cur now rank h + sumL t acc cur now rank := by simp [sumL]
  rw [e, List.filter_cons]
  cases hs : selB acc cur now h with
  | false =>
   have hw : wH acc cur now rank h = 0 := by
    unfold selB at hs
    unfold wH restH
    split
    ·rename_i hc
     simp only [hc.1, hc.2.1, beq_self_eq_true, Bool.true_and] at hs
     rw [hs]; simp
    ·rfl
   rw [if_neg (by simp), sum_fold acc cur now rank t n h0 (by omega), hw]
   simp
  | true =>
   unfold selB at hs
   simp only [Bool.and_eq_true, beq_iff_eq] at hs
   rw [if_pos rfl]
   simp only [foldO, sumStep, rest_eq, Option.bind_some, ge_iff_le]
   by_cases hk : rank ≤ h.f_Rank
   ·have hw : wH acc cur now rank h = restH h now := by unfold wH; rw [if_pos ⟨hs.1, hs.2.1, hk⟩]
    simp only [hk, decide_true, if_true, Option.bind_some]
    rw [wrap64 (by omega) (by omega), sum_fold acc cur now rank t _ (by omega) (by omega), hw, Int.add_assoc]
   ·have hw : wH acc cur now rank h = 0 := by unfold wH; rw [if_neg (fun hc => hk hc.2.2)]
    simp only [hk, decide_false, Bool.false_eq_true, if_false, Option.bind_some]
    rw [sum_fold acc cur now rank t n h0 (by omega), hw]
    simp
theorem sum_eq {l : List T_api_Hold} (hg : GoodL l) (acc cur now rank : Int) : hold_Sum l acc cur now rank = some (sumL l acc cur now rank, 0) := by
 have hf := hg.few
 unfold hold_Sum
 rw [check_eq l (by omega), chkH_good.2 hg]
 simp only [Option.bind_some, bne_self_eq_false, Bool.false_eq_true, if_false, those_eq (show l.length ≤ 1000 by omega), sum_fold acc cur now rank l 0 (by omega) (by omega), Int.zero_add]
end Go.Av.G
end
section
set_option linter.unusedVariables false
set_option linter.unusedSimpArgs false
set_option maxRecDepth 4000
set_option maxHeartbeats 4000000
namespace Go.Av.G
open Go Go.Av Go.Proofs
theorem bind_at {α β : Type} {a : Option α} {x : α} {f : α → Option β} {o : Option β} (h : a = some x) (h2 : f x = o) : a.bind f = o := by subst h; exact h2
def absI (n : Int) : Int := if n < 0 then -n else n
def selL (acc cur : Int) (x : T_api_Leg) : Bool := x.f_Acc == acc && x.f_Amount.f_Cur == cur
def flatP (acc cur : Int) (p : T_api_Posting) (l : List T_api_Leg) : List T_balance_leg := (l.filter (selL acc cur)).map fun x => ⟨p.f_Known, p.f_Value, x.f_Amount.f_Minor⟩
def flatL (acc cur : Int) : List T_api_Posting → List T_balance_leg
 | [] => []
 | p :: t => flatP acc cur p p.f_Legs ++ flatL acc cur t
def greatF : Int → List T_balance_leg → Option Int
 | g, [] => some g
 | g, x :: t => if 1000000000000000000 - g < absI x.f_minor then none else greatF (g + absI x.f_minor) t
def sumV (e : Int) : List T_balance_leg → Int
 | [] => 0
 | x :: t => (if x.f_value ≤ e then x.f_minor else 0) + sumV e t
theorem absI_pos (n : Int) : 0 ≤ absI n ∧ n ≤ absI n ∧ -absI n ≤ n := by unfold absI; split <;> omega
theorem greatF_append : ∀ (a b : List T_balance_leg) (g : Int), greatF g (a ++ b) = (greatF g a).bind fun g' => greatF g' b
 | [], b, g => rfl
 | x :: a, b, g => by
  show (if 1000000000000000000 - g < absI x.f_minor then none else greatF (g + absI x.f_minor) (a ++ b)) = ((if 1000000000000000000 - g < absI x.f_minor then none else greatF (g + absI x.f_minor) a).bind fun g' => greatF g' b)
  split
  ·rfl
  ·exact greatF_append a b _
theorem greatF_range : ∀ (a : List T_balance_leg) {g G : Int}, greatF g a = some G → 0 ≤ g → g ≤ 1000000000000000000 → g ≤ G ∧ G ≤ 1000000000000000000
 | [], g, G, h, h0, h1 => by cases h; omega
 | x :: a, g, G, h, h0, h1 => by
  have ha := absI_pos x.f_minor
  have h : (if 1000000000000000000 - g < absI x.f_minor then none else greatF (g + absI x.f_minor) a) = some G := h
  split at h
  ·cases h
  ·have := greatF_range a h (by omega) (by omega)
   omega
theorem sumV_range (e : Int) : ∀ (a : List T_balance_leg) {g G : Int}, greatF g a = some G → -(G - g) ≤ sumV e a ∧ sumV e a ≤ G - g
 | [], g, G, h => by cases h; simp [sumV]
 | x :: a, g, G, h => by
  have ha := absI_pos x.f_minor
  have h : (if 1000000000000000000 - g < absI x.f_minor then none else greatF (g + absI x.f_minor) a) = some G := h
  split at h
  ·cases h
  ·have := sumV_range e a h
   show -(G - g) ≤ (if x.f_value ≤ e then x.f_minor else 0) + sumV e a ∧ (if x.f_value ≤ e then x.f_minor else 0) + sumV e a ≤ G - g
   split <;> omega
def legI (x : T_api_Leg) : Prop := -9223372036854775808 ≤ x.f_Amount.f_Minor ∧ x.f_Amount.f_Minor < 9223372036854775808
theorem great_add_eq {n g : Int} (h1 : -9223372036854775808 ≤ n) (h2 : n < 9223372036854775808) (h3 : 0 ≤ g) (h4 : g ≤ 1000000000000000000) : balance_great_add n ⟨g⟩ = some (if 1000000000000000000 - g < absI n then (true, g) else (false, g + absI n)) := by
 have e1 : IntKind.wrap .i64 (1000000000000000000 - g) = 1000000000000000000 - g := wrap64 (by omega) (by omega)
 unfold balance_great_add absI
 simp only [decide_eq_true_eq, e1]
 by_cases hn : n < 0
 ·simp only [if_pos hn, Option.bind_some]
  by_cases hm : n = -9223372036854775808
  ·subst hm
   have e2 : IntKind.wrap .i64 (0 - (-9223372036854775808)) = -9223372036854775808 := by rfl
   simp only [e2]
   rw [if_pos (by simp), if_pos (by omega)]
  ·have e2 : IntKind.wrap .i64 (0 - n) = -n := by rw [wrap64 (by omega) (by omega)]; omega
   simp only [e2]
   by_cases hg : 1000000000000000000 - g < -n
   ·rw [if_pos (by simp; omega), if_pos hg]
   ·have e3 : IntKind.wrap .i64 (g + -n) = g + -n := wrap64 (by omega) (by omega)
    rw [if_neg (by simp; omega), if_neg hg, e3]
 ·simp only [if_neg hn, Option.bind_some]
  by_cases hg : 1000000000000000000 - g < n
  ·rw [if_pos (by simp; omega), if_pos hg]
  ·have e3 : IntKind.wrap .i64 (g + n) = g + n := wrap64 (by omega) (by omega)
   rw [if_neg (by simp; omega), if_neg hg, e3]
theorem legs_in {p : T_api_Posting} {acc cur : Int} (hp : ∀ x ∈ p.f_Legs, legI x) (hl : p.f_Legs.length ≤ 1000) : ∀ (t pre : List T_api_Leg) (g : Int) (row : List T_balance_leg), p.f_Legs = pre ++ t → 0 ≤ g → g ≤ 1000000000000000000 → row.length + t.length ≤ 1000000 →
  loopO (fun (qj9 : Int × Int × (List T_balance_leg)) => match qj9 with
     | (x10, g11, row12) => (
      if (decide (x10 < (p.f_Legs.length : Int))) = true then
       (((rdO p.f_Legs x10).bind fun x14 =>
       (some (x14.f_Acc != acc)).bind fun c15 =>
       if (c15 || (x14.f_Amount.f_Cur != cur)) = true then
        some (.inl (g11, row12))
       else
        (balance_great_add x14.f_Amount.f_Minor (⟨g11⟩ : T_balance_great)).bind fun x16 =>
        if x16.1 = true then
         some (.inr (.inr (.inr (.inr (.inr (([] : List T_balance_leg), 9))))))
        else
         (apO 16 row12 [(⟨p.f_Known, p.f_Value, x14.f_Amount.f_Minor⟩ : T_balance_leg)]).bind fun x17 =>
         some (.inl (x16.2, x17))) : Option ((Int × (List T_balance_leg)) ⊕ ((Int × Int × (List T_balance_leg)) ⊕ ((Int × (List T_balance_leg)) ⊕ ((Int × Int × (List T_balance_leg)) ⊕ ((List T_balance_leg) ⊕ ((List T_balance_leg) × Int))))))).bind fun j13 => match j13 with
       | .inr o => some o
       | .inl (g18, row19) =>
       some (.inl (IntKind.wrap .i64 (x10 + 1), g18, row19))
      else
       some (.inr (.inl (g11, row12))) : Option ((Int × Int × (List T_balance_leg)) ⊕ ((Int × (List T_balance_leg)) ⊕ ((Int × Int × (List T_balance_leg)) ⊕ ((List T_balance_leg) ⊕ ((List T_balance_leg) × Int))))))) ((pre.length : Int), g, row)
   = some (match greatF g (flatP acc cur p t) with | none => .inr (.inr (.inr ([], 9))) | some g' => .inl (g', row ++ flatP acc cur p t)) := by
 intro t
 induction t with
 | nil =>
  intro pre g row he _ _ _
  rw [loopO_out (o := .inl (g, row))]
  ·simp [flatP, greatF]
  ·have : decide ((pre.length : Int) < (p.f_Legs.length : Int)) = false := by rw [he]; simp
   simp only [this, Bool.false_eq_true, if_false]
 | cons x t ih =>
  intro pre g row he h0 h1 hrow
  have hlen : p.f_Legs.length = pre.length + (t.length + 1) := by rw [he]; simp
  simp only [List.length_cons] at hrow
  have hd : decide ((pre.length : Int) < (p.f_Legs.length : Int)) = true := by simp; omega
  have hx : rdO p.f_Legs (pre.length : Int) = some x := by rw [he]; exact rd_mid rfl
  have e1 : IntKind.wrap .i64 ((pre.length : Int) + 1) = (((pre ++ [x]).length : Nat) : Int) := wN (by simp) (by simp; omega)
  have hi : legI x := hp x (by rw [he]; simp)
  have ha := absI_pos x.f_Amount.f_Minor
  by_cases hs : selL acc cur x = true
  ·have hf : flatP acc cur p (x :: t) = ⟨p.f_Known, p.f_Value, x.f_Amount.f_Minor⟩ :: flatP acc cur p t := by simp [flatP, List.filter_cons, hs]
   have hs' : ((x.f_Acc != acc) || (x.f_Amount.f_Cur != cur)) = false := by
    simp only [selL, Bool.and_eq_true, beq_iff_eq] at hs
    simp [hs.1, hs.2]
   rw [hf]
   have hgf : greatF g ((⟨p.f_Known, p.f_Value, x.f_Amount.f_Minor⟩ : T_balance_leg) :: flatP acc cur p t) = if 1000000000000000000 - g < absI x.f_Amount.f_Minor then none else greatF (g + absI x.f_Amount.f_Minor) (flatP acc cur p t) := rfl
   rw [hgf]
   by_cases hg : 1000000000000000000 - g < absI x.f_Amount.f_Minor
   ·rw [if_pos hg, loopO_out (o := .inr (.inr (.inr ([], 9))))]
    simp only [hd, if_true, hx, Option.bind_some, hs', Bool.false_eq_true, if_false, great_add_eq hi.1 hi.2 h0 h1, if_pos hg]
   ·rw [if_neg hg]
    have ea : apO 16 row [(⟨p.f_Known, p.f_Value, x.f_Amount.f_Minor⟩ : T_balance_leg)] = some (row ++ [⟨p.f_Known, p.f_Value, x.f_Amount.f_Minor⟩]) := apO_eq (by simp; omega)
    have := ih (pre ++ [x]) (g + absI x.f_Amount.f_Minor) (row ++ [⟨p.f_Known, p.f_Value, x.f_Amount.f_Minor⟩]) (by simp [he]) (by omega) (by omega) (by simp; omega)
    rw [loopO_on (s' := ((((pre ++ [x]).length : Nat) : Int), g + absI x.f_Amount.f_Minor, row ++ [⟨p.f_Known, p.f_Value, x.f_Amount.f_Minor⟩])), this]
    ·simp
    ·simp only [hd, if_true, hx, Option.bind_some, hs', Bool.false_eq_true, if_false, great_add_eq hi.1 hi.2 h0 h1, if_neg hg, ea, e1]
  ·have hf : flatP acc cur p (x :: t) = flatP acc cur p t := by simp [flatP, List.filter_cons, hs]
   have hs' : ((x.f_Acc != acc) || (x.f_Amount.f_Cur != cur)) = true := by
    simp only [selL, Bool.and_eq_true, beq_iff_eq] at hs
    by_cases h : x.f_Acc = acc
    ·simp [h] at hs ⊢
     exact hs
    ·simp [h]
   rw [hf]
   have := ih (pre ++ [x]) g row (by simp [he]) h0 h1 (by omega)
   rw [loopO_on (s' := ((((pre ++ [x]).length : Nat) : Int), g, row)), this]
   simp only [hd, if_true, hx, Option.bind_some, hs', e1]
theorem flatP_len (acc cur : Int) (p : T_api_Posting) (l : List T_api_Leg) : (flatP acc cur p l).length ≤ l.length := by
 unfold flatP
 rw [List.length_map]
 exact List.length_filter_le _ _
structure FitL (l : List T_api_Posting) : Prop where
 few : l.length ≤ 40
 legs : ∀ p ∈ l, p.f_Legs.length ≤ 6
 fits : ∀ p ∈ l, ∀ x ∈ p.f_Legs, legI x
theorem legs_out {l : List T_api_Posting} {acc cur : Int} (hl : FitL l) : ∀ (t pre : List T_api_Posting) (g : Int) (row : List T_balance_leg), l = pre ++ t → 0 ≤ g → g ≤ 1000000000000000000 → row.length + t.length * 6 ≤ 1000000 →
  loopO (fun (qj4 : Int × Int × (List T_balance_leg)) => match qj4 with
  | (x5, g6, row7) => (
   if (decide (x5 < (l.length : Int))) = true then
    (rdO l x5).bind fun x8 =>
    ((loopO (fun (qj9 : Int × Int × (List T_balance_leg)) => match qj9 with
      | (x10, g11, row12) => (
       if (decide (x10 < (x8.f_Legs.length : Int))) = true then
        (((rdO x8.f_Legs x10).bind fun x14 =>
        (some (x14.f_Acc != acc)).bind fun c15 =>
        if (c15 || (x14.f_Amount.f_Cur != cur)) = true then
         some (.inl (g11, row12))
        else
         (balance_great_add x14.f_Amount.f_Minor (⟨g11⟩ : T_balance_great)).bind fun x16 =>
         if x16.1 = true then
          some (.inr (.inr (.inr (.inr (.inr (([] : List T_balance_leg), 9))))))
         else
          (apO 16 row12 [(⟨x8.f_Known, x8.f_Value, x14.f_Amount.f_Minor⟩ : T_balance_leg)]).bind fun x17 =>
          some (.inl (x16.2, x17))) : Option ((Int × (List T_balance_leg)) ⊕ ((Int × Int × (List T_balance_leg)) ⊕ ((Int × (List T_balance_leg)) ⊕ ((Int × Int × (List T_balance_leg)) ⊕ ((List T_balance_leg) ⊕ ((List T_balance_leg) × Int))))))).bind fun j13 => match j13 with
        | .inr o => some o
        | .inl (g18, row19) =>
        some (.inl (IntKind.wrap .i64 (x10 + 1), g18, row19))
       else
        some (.inr (.inl (g11, row12))) : Option ((Int × Int × (List T_balance_leg)) ⊕ ((Int × (List T_balance_leg)) ⊕ ((Int × Int × (List T_balance_leg)) ⊕ ((List T_balance_leg) ⊕ ((List T_balance_leg) × Int))))))) (0, g6, row7)) : Option ((Int × (List T_balance_leg)) ⊕ ((Int × Int × (List T_balance_leg)) ⊕ ((List T_balance_leg) ⊕ ((List T_balance_leg) × Int))))).bind fun j9 => match j9 with
    | .inr o => some o
    | .inl (g20, row21) =>
    some (.inl (IntKind.wrap .i64 (x5 + 1), g20, row21))
   else
    some (.inr (.inl row7)) : Option ((Int × Int × (List T_balance_leg)) ⊕ ((List T_balance_leg) ⊕ ((List T_balance_leg) × Int))))) ((pre.length : Int), g, row)
   = some (match greatF g (flatL acc cur t) with | none => .inr ([], 9) | some g' => .inl (row ++ flatL acc cur t)) := by
 intro t
 induction t with
 | nil =>
  intro pre g row he _ _ _
  rw [loopO_out (o := .inl row)]
  ·simp [flatL, greatF]
  ·have : decide ((pre.length : Int) < (l.length : Int)) = false := by rw [he]; simp
   simp only [this, Bool.false_eq_true, if_false]
 | cons p t ih =>
  intro pre g row he h0 h1 hrow
  have hlen : l.length = pre.length + (t.length + 1) := by rw [he]; simp
  have hf := hl.few
  have hmem : p ∈ l := by rw [he]; simp
  have h6 := hl.legs p hmem
  simp only [List.length_cons] at hrow
  have hd : decide ((pre.length : Int) < (l.length : Int)) = true := by simp; omega
  have hx : rdO l (pre.length : Int) = some p := by rw [he]; exact rd_mid rfl
  have e1 : IntKind.wrap .i64 ((pre.length : Int) + 1) = (((pre ++ [p]).length : Nat) : Int) := wN (by simp) (by simp; omega)
  have hin := legs_in (p := p) (acc := acc) (cur := cur) (hl.fits p hmem) (by omega) p.f_Legs [] g row rfl h0 h1 (by omega)
  have e0 : (((([] : List T_api_Leg).length : Nat)) : Int) = 0 := rfl
  rw [e0] at hin
  have hfl : flatL acc cur (p :: t) = flatP acc cur p p.f_Legs ++ flatL acc cur t := rfl
  rw [hfl, greatF_append]
  cases hg : greatF g (flatP acc cur p p.f_Legs) with
  | none =>
   rw [hg] at hin
   rw [loopO_out (o := .inr ([], 9))]
   ·rfl
   ·simp only [hd, if_true, hx, Option.bind_some]
    exact bind_at hin rfl
  | some g' =>
   rw [hg] at hin
   have hr := greatF_range _ hg h0 h1
   have := ih (pre ++ [p]) g' (row ++ flatP acc cur p p.f_Legs) (by simp [he]) (by omega) (by omega) (by have := flatP_len acc cur p p.f_Legs; simp; omega)
   rw [loopO_on (s' := ((((pre ++ [p]).length : Nat) : Int), g', row ++ flatP acc cur p p.f_Legs)), this]
   ·simp
   ·simp only [hd, if_true, hx, Option.bind_some, e1]
    exact bind_at hin rfl
theorem legs_eq {l : List T_api_Posting} (hl : FitL l) (acc cur : Int) : balance_legs l acc cur = some (match greatF 0 (flatL acc cur l) with | none => ([], 9) | some _ => (flatL acc cur l, 0)) := by
 unfold balance_legs
 have := legs_out (acc := acc) (cur := cur) hl l [] 0 [] rfl (by omega) (by omega) (by have := hl.few; simp; omega)
 have e0 : (((([] : List T_api_Posting).length : Nat)) : Int) = 0 := rfl
 rw [e0] at this
 refine bind_at this ?_
 cases greatF 0 (flatL acc cur l) <;> rfl
theorem sum_loop {l : List T_balance_leg} {e : Int} (hl : l.length < 1000000) : ∀ (t pre : List T_balance_leg) (n g G : Int), l = pre ++ t → greatF g t = some G → 0 ≤ g → g ≤ 1000000000000000000 → -g ≤ n → n ≤ g →
  loopO (fun (qj3 : Int × Int) => match qj3 with
  | (n4, x5) => (
   if (decide (x5 < (l.length : Int))) = true then
    (rdO l x5).bind fun x6 =>
    (balance_Of_1 x6 e).bind fun x7 =>
    ((if x7 = true then
      some (IntKind.wrap .i64 (n4 + x6.f_minor))
    else
     some n4) : Option Int).bind fun j8 =>
    some (.inl (j8, IntKind.wrap .i64 (x5 + 1)))
   else
    some (.inr n4) : Option ((Int × Int) ⊕ Int))) (n, (pre.length : Int)) = some (n + sumV e t) := by
 intro t
 induction t with
 | nil =>
  intro pre n g G he _ _ _ _ _
  rw [loopO_out (o := n)]
  ·simp [sumV]
  ·have : decide ((pre.length : Int) < (l.length : Int)) = false := by rw [he]; simp
   simp only [this, Bool.false_eq_true, if_false]
 | cons x t ih =>
  intro pre n g G he hg h0 h1 h2 h3
  have hlen : l.length = pre.length + (t.length + 1) := by rw [he]; simp
  have hd : decide ((pre.length : Int) < (l.length : Int)) = true := by simp; omega
  have hx : rdO l (pre.length : Int) = some x := by rw [he]; exact rd_mid rfl
  have e1 : IntKind.wrap .i64 ((pre.length : Int) + 1) = (((pre ++ [x]).length : Nat) : Int) := wN (by simp) (by simp; omega)
  have ha := absI_pos x.f_minor
  have hg' : (if 1000000000000000000 - g < absI x.f_minor then none else greatF (g + absI x.f_minor) t) = some G := hg
  split at hg'
  ·cases hg'
  ·have hsv : sumV e (x :: t) = (if x.f_value ≤ e then x.f_minor else 0) + sumV e t := rfl
   rw [hsv]
   by_cases hv : x.f_value ≤ e
   ·have ew : IntKind.wrap .i64 (n + x.f_minor) = n + x.f_minor := wrap64 (by omega) (by omega)
    have := ih (pre ++ [x]) (n + x.f_minor) _ _ (by simp [he]) hg' (by omega) (by omega) (by omega) (by omega)
    rw [loopO_on (s' := (n + x.f_minor, (((pre ++ [x]).length : Nat) : Int))), this, if_pos hv, Int.add_assoc]
    simp only [hd, if_true, hx, Option.bind_some, balance_Of_1, decide_eq_true hv, ew, e1]
   ·have := ih (pre ++ [x]) n _ _ (by simp [he]) hg' (by omega) (by omega) (by omega) (by omega)
    rw [loopO_on (s' := (n, (((pre ++ [x]).length : Nat) : Int))), this, if_neg hv, Int.zero_add]
    simp only [hd, if_true, hx, Option.bind_some, balance_Of_1, decide_eq_false hv, Bool.false_eq_true, if_false, e1]
theorem flatL_len (acc cur : Int) : ∀ {l : List T_api_Posting}, (∀ p ∈ l, p.f_Legs.length ≤ 6) → (flatL acc cur l).length ≤ l.length * 6
 | [], _ => by simp [flatL]
 | p :: t, h => by
  have h1 := flatP_len acc cur p p.f_Legs
  have h2 := flatL_len acc cur (l := t) (fun q hq => h q (by simp [hq]))
  have h3 := h p (by simp)
  simp only [flatL, List.length_append, List.length_cons]
  omega
theorem bsum_eq {l : List T_balance_leg} {G : Int} (hl : l.length < 1000000) (hg : greatF 0 l = some G) (e : Int) : balance_sum l e = some (sumV e l) := by
 unfold balance_sum
 have := sum_loop (e := e) hl l [] 0 0 G rfl hg (by omega) (by omega) (by omega) (by omega)
 have e0 : (((([] : List T_balance_leg).length : Nat)) : Int) = 0 := rfl
 rw [e0] at this
 rw [this, Int.zero_add]
 rfl
theorem bsum_nil (e : Int) : balance_sum [] e = some 0 := bsum_eq (G := 0) (by simp) rfl e
theorem bmay_eq {l : List T_api_Posting} (hl : l.length ≤ 2000) {d : Int} (hd : -50000 ≤ d) (hd' : d ≤ 50000) : balance_may l d d [] = some 0 := by
 have h1 : balance_may_1 d = some false := by simp [balance_may_1, date_Right, hd, hd']
 have h2 : slices_ContainsFunc_Date_Date [] = some false := by
  unfold slices_ContainsFunc_Date_Date slices_IndexFunc_Date_Date
  rw [loopO_out (o := Sum.inl ())]
  ·rfl
  ·rfl
 have h3 : decide ((l.length : Int) > 2000) = false := decide_eq_false (by omega)
 have h4 : decide (d > d) = false := decide_eq_false (by omega)
 unfold balance_may
 simp only [h3, h1, gdO_some, h2, h4, Option.bind_some, Bool.false_eq_true, if_false, Bool.not_false, Bool.or_self, cond_true]
theorem bof_eq {l : List T_api_Posting} (hl : FitL l) (acc cur : Int) {d : Int} (hd : -50000 ≤ d) (hd' : d ≤ 50000) : balance_Of l acc cur d = some (match greatF 0 (flatL acc cur l) with | none => (0, 9) | some _ => (sumV d (flatL acc cur l), 0)) := by
 unfold balance_Of
 rw [bmay_eq (by have := hl.few; omega) hd hd']
 simp only [Option.bind_some, bne_self_eq_false, Bool.false_eq_true, if_false, legs_eq hl]
 have hlen := flatL_len acc cur hl.legs
 have hf := hl.few
 cases hg : greatF 0 (flatL acc cur l) with
 | none => simp only [bsum_nil, Option.bind_some]
 | some G => simp only [bsum_eq (show (flatL acc cur l).length < 1000000 by omega) hg, Option.bind_some]
end Go.Av.G
end
section
set_option linter.unusedVariables false
set_option linter.unusedSimpArgs false
set_option maxRecDepth 4000
set_option maxHeartbeats 4000000
namespace Go.Av.G
open Go Go.Av Go.Proofs
def okLim (x : T_api_Limit) : Bool := decide (1 ≤ x.f_Acc ∧ x.f_Acc ≤ 999 ∧ 0 ≤ x.f_Minor ∧ x.f_Minor ≤ 1000000000000000)
structure LimP (l : List T_api_Limit) : Prop where
 ok : ∀ x ∈ l, okLim x = true
 rise : Rise (fun x : T_api_Limit => x.f_Acc) l
 few : l.length ≤ 200
def limQ (l : List T_api_Limit) (i : Nat) : Bool := ((l[i]?).any fun x => !okLim x) || (decide (0 < i) && descends (fun x : T_api_Limit => x.f_Acc) l i)
theorem limQ_iff {l : List T_api_Limit} (h : l.length ≤ 200) : (List.range' 0 l.length).any (limQ l) = false ↔ LimP l := by
 rw [any_idx]
 constructor
 ·intro hq
  refine ⟨fun x hx => ?_, descends_rise.1 fun i hi => ?_, h⟩
  ·obtain ⟨i, hi, rfl⟩ := List.getElem_of_mem hx
   have := hq i hi
   unfold limQ at this
   rw [List.getElem?_eq_getElem hi] at this
   simp at this
   exact this.1
  ·have := hq i hi
   unfold limQ at this
   simp only [Bool.or_eq_false_iff] at this
   exact this.2
 ·intro hl i hi
  unfold limQ
  rw [descends_rise.2 hl.rise i hi, List.getElem?_eq_getElem hi]
  simp [hl.ok _ (List.getElem_mem hi)]
def limR (l : List T_api_Limit) (acc : Int) : Int := match fstIdx l (fun x => x.f_Acc == acc) with | some i => ((l[i]?).getD default).f_Minor | none => 0
theorem limR_range {l : List T_api_Limit} (hl : LimP l) (acc : Int) : 0 ≤ limR l acc ∧ limR l acc ≤ 1000000000000000 := by
 unfold limR
 cases hi : fstIdx l (fun x => x.f_Acc == acc) with
 | none => simp
 | some i =>
  obtain ⟨h, _, _⟩ := fstIdx_some hi
  have := of_decide_eq_true (hl.ok _ (List.getElem_mem h))
  simp only [List.getElem?_eq_getElem h, Option.getD_some]
  omega
theorem idxLim_eq (l : List T_api_Limit) (acc : Int) (hn : l.length < 4611686018427387904) : slices_IndexFunc_Limit_Limit l acc = some (match fstIdx l (fun x => x.f_Acc == acc) with | some i => ((i : Nat) : Int) | none => -1) := by
 unfold slices_IndexFunc_Limit_Limit
 rw [loopL_idx (l := l) (fun x => x.f_Acc == acc) (o := fun i => (Sum.inr (i : Int) : Unit ⊕ Int)) (e := Sum.inl ()) hn]
 ·cases fstIdx l (fun x => x.f_Acc == acc) <;> rfl
 ·intro i h
  simp only [decide_eq_true_eq]
  rw [if_pos (by omega), rdO_at h]
  simp only [Option.bind_some, avail_ask_1]
  split <;> rfl
 ·intro i h
  simp only [decide_eq_true_eq]
  rw [if_neg (by omega)]
structure RightT (t : T_api_Till) : Prop where
 chart : RightP t.f_Chart
 few : t.f_L.length ≤ 2000
 holds : GoodL t.f_Holds
 limits : LimP t.f_Limits
structure FewT (t : T_api_Till) : Prop where
 chart : Fits t.f_Chart
 legs : t.f_L.length ≤ 2000 → FitL t.f_L
 holds : t.f_Holds.length ≤ 100
 limits : t.f_Limits.length ≤ 40
theorem in_Account_eq (n lo hi : Int) : avail_in_Account n lo hi = some (decide (n ≥ lo) && decide (n ≤ hi)) := by simp [avail_in_Account]
theorem in_int64_eq (n lo hi : Int) : avail_in_int64 n lo hi = some (decide (n ≥ lo) && decide (n ≤ hi)) := by simp [avail_in_int64]
theorem Right_loop {l : List T_api_Limit} (hn : l.length < 4611686018427387904) :
  loopO (fun (qj2 : Int) => match qj2 with
  | x3 => (
   if (decide (x3 < (l.length : Int))) = true then
    (rdO l x3).bind fun x4 =>
    (avail_in_Account x4.f_Acc 1 999).bind fun x5 =>
    (some (!x5)).bind fun c6 =>
    (gdO (!c6) (avail_in_int64 x4.f_Minor 0 1000000000000000) (default : Bool)).bind fun x7 =>
    (some (c6 || (!x7))).bind fun c8 =>
    (some (decide (x3 > 0))).bind fun c9 =>
    (gdO ((!c8) && c9) (rdO l (IntKind.wrap .i64 (x3 - 1))) (default : T_api_Limit)).bind fun x10 =>
    if (c8 || (c9 && (decide (x10.f_Acc ≥ x4.f_Acc)))) = true then
     some (.inr (.inr false))
    else
     some (.inl (IntKind.wrap .i64 (x3 + 1)))
   else
    some (.inr (.inl ())) : Option (Int ⊕ (Unit ⊕ Bool)))) 0 = some (if (List.range' 0 l.length).any (limQ l) = true then .inr false else .inl ()) := by
 rw [loopI_any0 (n := l.length) (q := limQ l) (o := (Sum.inr false : Unit ⊕ Bool)) (e := Sum.inl ()) hn]
 ·intro i h
  simp only [decide_eq_true_eq]
  rw [if_pos (by omega), rdO_at h]
  simp only [Option.bind_some, in_Account_eq, in_int64_eq, gdO_some]
  unfold limQ
  rw [List.getElem?_eq_getElem h]
  simp only [Option.any_some]
  have hb : (!(decide (l[i].f_Acc ≥ 1) && decide (l[i].f_Acc ≤ 999)) || !(bif (!!(decide (l[i].f_Acc ≥ 1) && decide (l[i].f_Acc ≤ 999))) then (decide (l[i].f_Minor ≥ 0) && decide (l[i].f_Minor ≤ 1000000000000000)) else default)) = !okLim l[i] := by
   unfold okLim
   by_cases h1 : 1 ≤ l[i].f_Acc <;> by_cases h2 : l[i].f_Acc ≤ 999 <;> by_cases h3 : 0 ≤ l[i].f_Minor <;> by_cases h4 : l[i].f_Minor ≤ 1000000000000000 <;> simp [h1, h2, h3, h4]
  rw [hb]
  by_cases hk : okLim l[i] = true
  ·cases i with
   | zero => simp [hk, gdO]
   | succ i =>
    have e1 : IntKind.wrap .i64 (((i + 1 : Nat) : Int) - 1) = (i : Int) := by rw [wrap64 (by omega) (by omega)]; omega
    have e2 : decide (((i + 1 : Nat) : Int) > 0) = true := decide_eq_true (by omega)
    rw [e1, e2, rdO_at (by omega), descends_at (by omega) h]
    by_cases hd : (l[i]).f_Acc ≥ (l[i + 1]).f_Acc <;> simp [hk, gdO, hd]
  ·have hk' : okLim l[i] = false := by simpa using hk
   simp [hk', gdO]
 ·intro i h
  simp only [decide_eq_true_eq]
  rw [if_neg (by omega)]
theorem ARight_spec {t : T_api_Till} (hf : FewT t) : ∃ b, avail_Right t = some b ∧ (b = true ↔ RightT t) := by
 unfold avail_Right
 obtain ⟨c, ec, hc⟩ := Right_spec t.f_Chart (by have := hf.chart.1; omega) (by have := hf.chart.2.1; omega)
 have hlim := hf.limits
 have hh := hf.holds
 have e := Right_loop (l := t.f_Limits) (by omega)
 by_cases hq : (List.range' 0 t.f_Limits.length).any (limQ t.f_Limits) = true
 ·rw [if_pos hq] at e
  refine ⟨false, bind_at e rfl, by simp, fun hr => ?_⟩
  rw [(limQ_iff (by omega)).2 hr.limits] at hq
  cases hq
 ·rw [if_neg hq] at e
  have hl := (limQ_iff (by omega)).1 (Bool.eq_false_iff.2 hq)
  refine ⟨_, bind_at e (by simp only [ec, check_eq t.f_Holds (by omega), gdO_some, Option.bind_some]; rfl), ?_⟩
  have h200 : decide ((t.f_Limits.length : Int) ≤ 200) = true := decide_eq_true (by omega)
  rw [h200]
  constructor
  ·intro hb
   cases c with
   | false => simp at hb
   | true =>
    by_cases h2 : t.f_L.length ≤ 2000
    ·have h2' : decide ((t.f_L.length : Int) ≤ 2000) = true := decide_eq_true (by omega)
     rw [h2'] at hb
     simp at hb
     exact ⟨hc.1 rfl, h2, chkH_good.1 hb, hl⟩
    ·have h2' : decide ((t.f_L.length : Int) ≤ 2000) = false := decide_eq_false (by omega)
     rw [h2'] at hb
     simp at hb
  ·intro hr
   have h2' : decide ((t.f_L.length : Int) ≤ 2000) = true := decide_eq_true (by have := hr.few; omega)
   rw [hc.2 hr.chart, h2', chkH_good.2 hr.holds]
   rfl
theorem ARight_at {t : T_api_Till} (hf : FewT t) (h : RightT t) : avail_Right t = some true := by
 obtain ⟨b, e, hb⟩ := ARight_spec hf
 rw [e, hb.2 h]
theorem ARight_not {t : T_api_Till} (hf : FewT t) (h : ¬ RightT t) : avail_Right t = some false := by
 obtain ⟨b, e, hb⟩ := ARight_spec hf
 cases b with
 | true => exact absurd (hb.1 rfl) h
 | false => exact e
def recI (t : T_api_Till) (acc : Int) : Option Nat := fstIdx t.f_Chart.f_Records (fun r => r.f_Acc == acc)
def recT (t : T_api_Till) (acc : Int) : T_api_Record := match recI t acc with | some i => (t.f_Chart.f_Records[i]?).getD default | none => default
def whyR (t : T_api_Till) (r : T_api_Record) (acc now : Int) : Int :=
 if r.f_Kind ≠ 1 then 13 else if ¬ (-50000 ≤ now ∧ now ≤ 50000) then 11 else if ¬ (r.f_From ≤ now ∧ now ≤ r.f_To) then 16 else match greatF 0 (flatL acc r.f_Cur t.f_L) with | none => 9 | some _ => 0
def whyT (t : T_api_Till) (acc now : Int) : Int := match recI t acc with | none => 8 | some _ => whyR t (recT t acc) acc now
def fundsT (t : T_api_Till) (acc now : Int) : Int := - sumV now (flatL acc (recT t acc).f_Cur t.f_L)
def freeT (t : T_api_Till) (acc now rank : Int) : Int := fundsT t acc now + limR t.f_Limits acc - sumL t.f_Holds acc (recT t acc).f_Cur now rank
theorem whyR_ok {t : T_api_Till} {r : T_api_Record} {acc now : Int} (h : whyR t r acc now = 0) : r.f_Kind = 1 ∧ -50000 ≤ now ∧ now ≤ 50000 ∧ r.f_From ≤ now ∧ now ≤ r.f_To ∧ ∃ G, greatF 0 (flatL acc r.f_Cur t.f_L) = some G := by
 unfold whyR at h
 split at h
 ·cases h
 ·split at h
  ·cases h
  ·split at h
   ·cases h
   ·rename_i h1 h2 h3
    cases hg : greatF 0 (flatL acc r.f_Cur t.f_L) with
    | none => rw [hg] at h; cases h
    | some G => exact ⟨by simpa using h1, by omega, by omega, by omega, by omega, G, rfl⟩
theorem whyT_rec {t : T_api_Till} {acc now : Int} (h : whyT t acc now = 0) : ∃ (i : Nat) (hi : i < t.f_Chart.f_Records.length), recI t acc = some i ∧ recT t acc = t.f_Chart.f_Records[i] ∧ t.f_Chart.f_Records[i].f_Acc = acc ∧ whyR t (recT t acc) acc now = 0 := by
 unfold whyT at h
 cases hi : recI t acc with
 | none => rw [hi] at h; cases h
 | some i =>
  rw [hi] at h
  obtain ⟨h1, h2, _⟩ := fstIdx_some hi
  refine ⟨i, h1, rfl, ?_, by simpa using h2, h⟩
  unfold recT
  rw [hi]
  simp [List.getElem?_eq_getElem h1]
theorem funds_range {t : T_api_Till} {acc now : Int} (h : whyT t acc now = 0) : -1000000000000000000 ≤ fundsT t acc now ∧ fundsT t acc now ≤ 1000000000000000000 := by
 obtain ⟨i, hi, _, _, _, hw⟩ := whyT_rec h
 obtain ⟨_, _, _, _, _, G, hG⟩ := whyR_ok hw
 have h1 := sumV_range now _ hG
 have h2 := greatF_range _ hG (by omega) (by omega)
 unfold fundsT
 omega
theorem chk0 : avail_check 0 = some none := rfl
theorem chkS {e : Int} (h : e ≠ 0) : avail_check e = some (some e) := by
 unfold avail_check
 rw [if_neg (by simpa using h)]
theorem ask_spec {t : T_api_Till} (hf : FewT t) (hr : RightT t) (acc now : Int) : ∃ a, avail_ask t acc now = some (a, if whyT t acc now = 0 then none else some (whyT t acc now)) ∧ (whyT t acc now = 0 → a = ⟨(recT t acc).f_Cur, fundsT t acc now, limR t.f_Limits acc⟩) := by
 have hF := hf.legs hr.few
 unfold avail_ask
 cases hi : recI t acc with
 | none =>
  have hno : ∀ x ∈ t.f_Chart.f_Records, x.f_Acc ≠ acc := fun x hx => by simpa using fstIdx_none hi x hx
  have hw : whyT t acc now = 8 := by unfold whyT; rw [hi]
  rw [hw, Find_none hf.chart hr.chart hno]
  exact ⟨⟨0, 0, 0⟩, rfl, fun h => by cases h⟩
 | some i =>
  obtain ⟨h1, h2, _⟩ := fstIdx_some hi
  have h2 : t.f_Chart.f_Records[i].f_Acc = acc := by simpa using h2
  have hrec : recT t acc = t.f_Chart.f_Records[i] := by unfold recT; rw [hi]; simp [List.getElem?_eq_getElem h1]
  have hw : whyT t acc now = whyR t t.f_Chart.f_Records[i] acc now := by unfold whyT; rw [hi, ← hrec]
  have hlim := hf.limits
  have hfun : fundsT t acc now = - sumV now (flatL acc t.f_Chart.f_Records[i].f_Cur t.f_L) := by unfold fundsT; rw [hrec]
  have hIs := Is_at hf.chart hr.chart (d := now) h1 h2
  rw [hw, Find_at hf.chart hr.chart h1 h2, hrec, hfun]
  generalize t.f_Chart.f_Records[i] = r at h2 hIs ⊢
  simp only [Option.bind_some, chk0, Option.isSome_none, Bool.false_eq_true, if_false, hIs]
  by_cases hk : r.f_Kind = 1
  ·have hk' : (r.f_Kind != 1) = false := by simpa using hk
   simp only [hk', Bool.false_eq_true, if_false]
   by_cases hn : -50000 ≤ now ∧ now ≤ 50000
   ·have hn' : (decide (-50000 ≤ now) && decide (now ≤ 50000)) = true := by simp [hn]
    simp only [hn', if_true, Option.bind_some, chk0, Option.isSome_none, Bool.false_eq_true, if_false]
    by_cases ho : r.f_From ≤ now ∧ now ≤ r.f_To
    ·have ho' : (!(decide (now ≥ r.f_From) && decide (now ≤ r.f_To))) = false := by simp [ho]
     have hx : ∃ q : Int, slices_IndexFunc_Limit_Limit t.f_Limits acc = some q ∧ ((if (decide (q ≥ 0)) = true then (rdO t.f_Limits q).bind fun x11 => some x11.f_Minor else some 0) : Option Int) = some (limR t.f_Limits acc) := by
      refine ⟨_, idxLim_eq t.f_Limits acc (by omega), ?_⟩
      unfold limR
      cases hx : fstIdx t.f_Limits (fun x => x.f_Acc == acc) with
      | none => rfl
      | some k =>
       obtain ⟨hk, _, _⟩ := fstIdx_some hx
       simp only [rdO_at hk, List.getElem?_eq_getElem hk, Option.getD_some, Option.bind_some]
       rw [if_pos (by simp)]
     obtain ⟨q, hq, hj⟩ := hx
     simp only [ho', Bool.false_eq_true, if_false, bof_eq hF acc r.f_Cur hn.1 hn.2, hq, Option.bind_some, hj]
     cases hg : greatF 0 (flatL acc r.f_Cur t.f_L) with
     | none =>
      have hwv : whyR t r acc now = 9 := by
       unfold whyR
       rw [if_neg (not_not_intro hk), if_neg (not_not_intro hn), if_neg (not_not_intro ho), hg]
      rw [hwv]
      exact ⟨_, rfl, fun h => by cases h⟩
     | some G =>
      have hwv : whyR t r acc now = 0 := by
       unfold whyR
       rw [if_neg (not_not_intro hk), if_neg (not_not_intro hn), if_neg (not_not_intro ho), hg]
      have h3 := sumV_range now _ hg
      have h4 := greatF_range _ hg (by omega) (by omega)
      have ew : IntKind.wrap .i64 (0 - sumV now (flatL acc r.f_Cur t.f_L)) = - sumV now (flatL acc r.f_Cur t.f_L) := by rw [wrap64 (by omega) (by omega)]; omega
      rw [hwv]
      refine ⟨⟨r.f_Cur, - sumV now (flatL acc r.f_Cur t.f_L), limR t.f_Limits acc⟩, ?_, fun _ => rfl⟩
      simp only [chk0, Option.bind_some, ew, if_true]
    ·have ho' : (!(decide (now ≥ r.f_From) && decide (now ≤ r.f_To))) = true := by
      rw [Bool.not_eq_true', Bool.eq_false_iff]
      intro h
      simp at h
      exact ho h
     have hwv : whyR t r acc now = 16 := by
      unfold whyR
      rw [if_neg (not_not_intro hk), if_neg (not_not_intro hn), if_pos ho]
     rw [hwv]
     simp only [ho', if_true]
     exact ⟨_, rfl, fun h => by cases h⟩
   ·have hn' : (decide (-50000 ≤ now) && decide (now ≤ 50000)) = false := by
     rw [Bool.eq_false_iff]
     intro h
     simp at h
     exact hn h
    have hwv : whyR t r acc now = 11 := by
     unfold whyR
     rw [if_neg (not_not_intro hk), if_pos hn]
    rw [hwv]
    simp only [hn', Bool.false_eq_true, if_false, Option.bind_some, chkS (show (11 : Int) ≠ 0 by decide), Option.isSome_some, if_true]
    exact ⟨_, rfl, fun h => by cases h⟩
  ·have hk' : (r.f_Kind != 1) = true := by simpa using hk
   have hwv : whyR t r acc now = 13 := by
    unfold whyR
    rw [if_pos hk]
   rw [hwv]
   simp only [hk', if_true]
   exact ⟨_, rfl, fun h => by cases h⟩
theorem Funds_bad {t : T_api_Till} (hf : FewT t) (hr : ¬ RightT t) (acc now : Int) : avail_Funds t acc now = some (0, 1) := by
 unfold avail_Funds
 rw [ARight_not hf hr]
 rfl
theorem Funds_why {t : T_api_Till} (hf : FewT t) (hr : RightT t) {acc now : Int} (hw : whyT t acc now ≠ 0) : avail_Funds t acc now = some (0, whyT t acc now) := by
 obtain ⟨a, ha, _⟩ := ask_spec hf hr acc now
 rw [if_neg hw] at ha
 unfold avail_Funds
 rw [ARight_at hf hr]
 simp only [Option.bind_some, Bool.not_true, Bool.false_eq_true, if_false, ha, Option.isSome_some, if_true, avail_whyOf, Option.getD_some]
theorem Funds_at {t : T_api_Till} (hf : FewT t) (hr : RightT t) {acc now : Int} (hw : whyT t acc now = 0) : avail_Funds t acc now = some (fundsT t acc now, 0) := by
 obtain ⟨a, ha, hv⟩ := ask_spec hf hr acc now
 rw [if_pos hw] at ha
 obtain rfl := hv hw
 unfold avail_Funds
 rw [ARight_at hf hr]
 simp only [Option.bind_some, Bool.not_true, Bool.false_eq_true, if_false, ha, Option.isSome_none]
theorem in_int_eq (n lo hi : Int) : avail_in_int n lo hi = some (decide (n ≥ lo) && decide (n ≤ hi)) := by simp [avail_in_int]
theorem lims_range {t : T_api_Till} (hf : FewT t) (hr : RightT t) {acc now : Int} (hw : whyT t acc now = 0) (rank : Int) : -1000000000000000000 ≤ fundsT t acc now ∧ fundsT t acc now ≤ 1000000000000000000 ∧ 0 ≤ limR t.f_Limits acc ∧ limR t.f_Limits acc ≤ 1000000000000000 ∧
  0 ≤ sumL t.f_Holds acc (recT t acc).f_Cur now rank ∧ sumL t.f_Holds acc (recT t acc).f_Cur now rank ≤ 100000000000000000 := by
 have h1 := funds_range hw
 have h2 := limR_range hr.limits acc
 have h3 := sumL_range acc (recT t acc).f_Cur now rank t.f_Holds
 have h4 := hf.holds
 refine ⟨h1.1, h1.2, h2.1, h2.2, h3.1, ?_⟩
 have h5 : ((t.f_Holds.length : Nat) : Int) ≤ 100 := by omega
 omega
theorem free_eq {t : T_api_Till} (hf : FewT t) (hr : RightT t) {acc now : Int} (hw : whyT t acc now = 0) (rank : Int) : avail_account_free ⟨(recT t acc).f_Cur, fundsT t acc now, limR t.f_Limits acc⟩ t acc now rank = some (freeT t acc now rank) := by
 have h := lims_range hf hr hw rank
 unfold avail_account_free
 rw [sum_eq hr.holds]
 have e1 : IntKind.wrap .i64 (fundsT t acc now + limR t.f_Limits acc) = fundsT t acc now + limR t.f_Limits acc := wrap64 (by omega) (by omega)
 have e2 : IntKind.wrap .i64 (fundsT t acc now + limR t.f_Limits acc - sumL t.f_Holds acc (recT t acc).f_Cur now rank) = fundsT t acc now + limR t.f_Limits acc - sumL t.f_Holds acc (recT t acc).f_Cur now rank := wrap64 (by omega) (by omega)
 simp only [Option.bind_some, e1, e2]
 rfl
theorem Free_at {t : T_api_Till} (hf : FewT t) (hr : RightT t) {acc now rank : Int} (hk : 0 ≤ rank ∧ rank ≤ 9) (hw : whyT t acc now = 0) : avail_Free t acc now rank = some (freeT t acc now rank, 0) := by
 obtain ⟨a, ha, hv⟩ := ask_spec hf hr acc now
 rw [if_pos hw] at ha
 obtain rfl := hv hw
 have hk' : (decide (rank ≥ 0) && decide (rank ≤ 9)) = true := by simp [hk]
 unfold avail_Free
 rw [ARight_at hf hr]
 simp only [Option.bind_some, in_int_eq, hk', gdO_some, Bool.not_true, Bool.not_false, cond_true, Bool.or_self, Bool.false_eq_true, if_false, ha, Option.isSome_none, free_eq hf hr hw]
def oneT : T_api_Till := ⟨⟨[], [⟨5, 1, 0, 0, 0, 0, 0, 50000⟩]⟩, [⟨0, 0, 3, [⟨5, ⟨0, (-100)⟩⟩], 0, 0, []⟩], [⟨1, 5, ⟨0, 30⟩, 2, 3, 9, 0, false⟩], []⟩
theorem one_few : FewT oneT := by
 refine ⟨⟨by simp [oneT], by simp [oneT], by simp [oneT]⟩, fun _ => ⟨by simp [oneT], by simp [oneT], ?_⟩, by simp [oneT], by simp [oneT]⟩
 intro p hp x hx
 simp [oneT] at hp
 subst hp
 simp at hx
 subst hx
 simp [legI]
theorem one_right : RightT oneT := by
 refine ⟨⟨by simp [oneT], by simp [oneT], ?_, ?_, by simp [oneT], ?_⟩, by simp [oneT], ⟨?_, ?_, by simp [oneT]⟩, ⟨by simp [oneT], ?_, by simp [oneT]⟩⟩
 ·intro i h; simp [oneT] at h
 ·intro i h; simp [oneT] at h
 ·intro x hx
  simp [oneT] at hx
  subst hx
  decide
 ·intro x hx
  simp [oneT] at hx
  subst hx
  decide
 ·intro i h; simp [oneT] at h
 ·intro i h; simp [oneT] at h
theorem one_why : whyT oneT 5 4 = 0 := by decide
theorem alive : cashbooklaw26_alive = some true := by
 unfold cashbooklaw26_alive
 have h1 : cashbooklaw26_one = some oneT := rfl
 have h2 := Free_at one_few one_right (acc := 5) (now := 4) (rank := 0) ⟨by omega, by omega⟩ one_why
 have h3 := Free_at one_few one_right (acc := 5) (now := 4) (rank := 3) ⟨by omega, by omega⟩ one_why
 have e2 : freeT oneT 5 4 0 = 70 := by decide
 have e3 : freeT oneT 5 4 3 = 100 := by decide
 simp only [h1, Option.bind_some, h2, h3, e2, e3]
 rfl
end Go.Av.G
end
section
set_option linter.unusedVariables false
set_option linter.unusedSimpArgs false
set_option maxRecDepth 4000
set_option maxHeartbeats 4000000
namespace Go.Av.G
open Go Go.Av Go.Proofs
def cutP (p : T_api_Posting) : T_api_Posting := ⟨p.f_ID, p.f_Known, p.f_Value, p.f_Legs.take 6, p.f_Reverses, p.f_Kind, p.f_Memo⟩
def cutT (t : T_api_Till) : T_api_Till := ⟨⟨t.f_Chart.f_Customers.take 20, t.f_Chart.f_Records.take 30⟩, if t.f_L.length ≤ 2000 then (t.f_L.take 40).map cutP else t.f_L, t.f_Holds.take 40, t.f_Limits.take 40⟩
theorem foldl_map {α β : Type} (f : α → β) : ∀ (l : List α) (s : List β), l.foldl (fun s x => s ++ [f x]) s = s ++ l.map f
 | [], s => by simp
 | x :: l, s => by rw [List.foldl_cons, foldl_map f l]; simp
theorem few_loop {l : List T_api_Posting} (hl : l.length ≤ 40) :
  loopO (fun (qj6 : Int × (List T_api_Posting)) => match qj6 with
   | (x7, row8) => (
    if (decide (x7 < (l.length : Int))) = true then
     (rdO l x7).bind fun x9 =>
     (slO x9.f_Legs 0 (if 6 < (x9.f_Legs.length : Int) then 6 else (x9.f_Legs.length : Int))).bind fun x10 =>
     (apO 72 row8 [(⟨x9.f_ID, x9.f_Known, x9.f_Value, x10, x9.f_Reverses, x9.f_Kind, x9.f_Memo⟩ : T_api_Posting)]).bind fun x11 =>
     some (.inl (IntKind.wrap .i64 (x7 + 1), x11))
    else
     some (.inr row8) : Option ((Int × (List T_api_Posting)) ⊕ (List T_api_Posting)))) (0, ([] : List T_api_Posting)) = some (l.map cutP) := by
 have hm : l.map cutP = l.foldl (fun s x => s ++ [cutP x]) [] := by rw [foldl_map]; rfl
 rw [hm, loopL_fold (l := l) (fun s x => s ++ [cutP x]) (fun s => s) (by omega)]
 ·intro i h
  have h3 := slO_cap (l[i]).f_Legs 6
  rw [show ((6 : Nat) : Int) = 6 from rfl] at h3
  have hap : ∀ x, apO 72 ((l.take i).foldl (fun s x => s ++ [cutP x]) []) [x] = some ((l.take i).foldl (fun s x => s ++ [cutP x]) [] ++ [x]) := by
   intro x
   refine apO_eq ?_
   rw [foldl_map]
   simp
   omega
  simp only [decide_eq_true_eq]
  rw [if_pos (by omega), rdO_at h]
  simp only [Option.bind_some, h3, hap]
  rfl
 ·simp only [decide_eq_true_eq]
  rw [if_neg (by omega)]
theorem few_eq (t : T_api_Till) : cashbooklaw26_few t = some (cutT t) := by
 have h1 := slO_cap t.f_Chart.f_Customers 20
 have h2 := slO_cap t.f_Chart.f_Records 30
 have h3 := slO_cap t.f_L 40
 have h4 := slO_cap t.f_Holds 40
 have h5 := slO_cap t.f_Limits 40
 rw [show ((20 : Nat) : Int) = 20 from rfl] at h1
 rw [show ((30 : Nat) : Int) = 30 from rfl] at h2
 rw [show ((40 : Nat) : Int) = 40 from rfl] at h3 h4 h5
 unfold cashbooklaw26_few cutT
 simp only [h1, h2, h4, h5, Option.bind_some]
 by_cases hl : t.f_L.length ≤ 2000
 ·have hl' : decide ((t.f_L.length : Int) ≤ 2000) = true := decide_eq_true (by omega)
  have hloop := few_loop (l := t.f_L.take 40) (by simp; omega)
  simp only [hl', if_true, h3, Option.bind_some, hl]
  rw [hloop]
  rfl
 ·have hl' : decide ((t.f_L.length : Int) ≤ 2000) = false := decide_eq_false (by omega)
  simp only [hl', Bool.false_eq_true, if_false, Option.bind_some, hl]
theorem cut_few {t : T_api_Till} (h : t.wf) : FewT (cutT t) := by
 obtain ⟨⟨⟨_, hc⟩, ⟨_, hr⟩⟩, ⟨hll, hp⟩, ⟨_, hh⟩, ⟨_, hm⟩⟩ := h
 refine ⟨⟨?_, ?_, ?_⟩, fun hl => ⟨?_, ?_, ?_⟩, ?_, ?_⟩
 ·simp [cutT]; omega
 ·simp [cutT]; omega
 ·intro x hx
  have := (hc x (List.mem_of_mem_take hx)).2.1
  have hm : maxLen ≤ 9223372036854775807 := by decide
  omega
 ·unfold cutT at hl ⊢
  by_cases h2 : t.f_L.length ≤ 2000
  ·simp only [h2, if_true, List.length_map, List.length_take]; omega
  ·rw [if_neg h2] at hl
   exact absurd hl h2
 ·intro p hpm
  unfold cutT at hl hpm
  by_cases h2 : t.f_L.length ≤ 2000
  ·simp only [h2, if_true] at hpm
   obtain ⟨q, hq, rfl⟩ := List.mem_map.1 hpm
   simp [cutP]; omega
  ·rw [if_neg h2] at hl
   exact absurd hl h2
 ·intro p hpm x hx
  unfold cutT at hl hpm
  by_cases h2 : t.f_L.length ≤ 2000
  ·simp only [h2, if_true] at hpm
   obtain ⟨q, hq, rfl⟩ := List.mem_map.1 hpm
   have := (hp q (List.mem_of_mem_take hq)).2.2.2.1.2 x (List.mem_of_mem_take hx)
   have h3 := this.2.2
   unfold inR at h3
   have e1 : IntKind.min .i64 = -9223372036854775808 := by decide
   have e2 : IntKind.max .i64 = 9223372036854775807 := by decide
   rw [e1, e2] at h3
   exact ⟨h3.1, by omega⟩
  ·rw [if_neg h2] at hl
   exact absurd hl h2
 ·simp [cutT]; omega
 ·simp [cutT]; omega
end Go.Av.G
end
section
set_option linter.unusedVariables false
set_option linter.unusedSimpArgs false
set_option maxRecDepth 4000
set_option maxHeartbeats 4000000
namespace Go.Av.G
open Go Go.Av Go.Proofs
theorem Pay_at {t : T_api_Till} (hf : FewT t) (hr : RightT t) {acc now : Int} (hw : whyT t acc now = 0) (m : T_api_Money) : avail_Pay t acc m now =
  some (if m.f_Cur ≠ (recT t acc).f_Cur then (false, 12) else if ¬ (1 ≤ m.f_Minor ∧ m.f_Minor ≤ 1000000000000000) then (false, 1) else (decide (m.f_Minor ≤ freeT t acc now 0), 0)) := by
 obtain ⟨a, ha, hv⟩ := ask_spec hf hr acc now
 rw [if_pos hw] at ha
 obtain rfl := hv hw
 unfold avail_Pay
 rw [ARight_at hf hr]
 simp only [Option.bind_some, Bool.not_true, Bool.false_eq_true, if_false, ha, Option.isSome_none, in_int64_eq]
 by_cases hc : m.f_Cur = (recT t acc).f_Cur
 ·have hc' : (m.f_Cur != (recT t acc).f_Cur) = false := by simpa using hc
  rw [if_neg (not_not_intro hc)]
  simp only [hc', Bool.false_eq_true, if_false]
  by_cases hm : 1 ≤ m.f_Minor ∧ m.f_Minor ≤ 1000000000000000
  ·have hm' : (!(decide (m.f_Minor ≥ 1) && decide (m.f_Minor ≤ 1000000000000000))) = false := by simp [hm]
   rw [if_neg (not_not_intro hm)]
   simp only [hm', Bool.false_eq_true, if_false, free_eq hf hr hw, Option.bind_some]
  ·have hm' : (!(decide (m.f_Minor ≥ 1) && decide (m.f_Minor ≤ 1000000000000000))) = true := by
    rw [Bool.not_eq_true', Bool.eq_false_iff]
    intro h
    simp at h
    exact hm h
   rw [if_pos hm]
   simp only [hm', if_true]
 ·have hc' : (m.f_Cur != (recT t acc).f_Cur) = true := by simpa using hc
  rw [if_pos hc]
  simp only [hc', if_true]
end Go.Av.G
end
section
set_option linter.unusedVariables false
set_option linter.unusedSimpArgs false
set_option maxRecDepth 4000
set_option maxHeartbeats 4000000
namespace Go.Av.G
open Go Go.Av Go.Proofs
theorem hold_place_1_eq (x : T_api_Hold) (n : Int) : hold_place_1 x n = some (if x.f_ID < n then -1 else if x.f_ID > n then 1 else 0) := by
 simp only [hold_place_1, cmp_Compare_int, cmp_isNaN_int, Option.bind_some, bne_self_eq_false, Bool.false_eq_true, if_false, decide_eq_true_eq]
 split
 ·rfl
 ·split <;> rfl
theorem hold_place_spec (l : List T_api_Hold) (n : Int) (hn : l.length < 4611686018427387904) (hr : Rise (·.f_ID) l) :
  ∃ (k : Nat) (b : Bool), hold_place l n = some ((k : Int), b) ∧ k ≤ l.length ∧ (b = true → ∃ h : k < l.length, l[k].f_ID = n) ∧ (b = false → ∀ x ∈ l, x.f_ID ≠ n) ∧ (∀ i (hi : i < l.length), i < k → l[i].f_ID < n) ∧ (b = false → ∀ i (hi : i < l.length), k ≤ i → n < l[i].f_ID) := by
 have hbs : ∃ (k : Nat) (b : Bool), slices_BinarySearchFunc_Hold_Hold_int l n = some ((k : Int), b) ∧ k ≤ l.length ∧ (b = true → ∃ h : k < l.length, l[k].f_ID = n) ∧ (b = false → ∀ x ∈ l, x.f_ID ≠ n) ∧ (∀ i (hi : i < l.length), i < k → l[i].f_ID < n) ∧ (b = false → ∀ i (hi : i < l.length), k ≤ i → n < l[i].f_ID) := by
  unfold slices_BinarySearchFunc_Hold_Hold_int
  obtain ⟨k, hk, hl, h1, h2⟩ := bsearch (n := l.length) (lt := fun i => (l[i]?).any fun x => decide (x.f_ID < n)) (f := fun (qj3 : Int × Int) => match qj3 with
  | (i4, j5) => (
   if (decide (i4 < j5)) = true then
    (rdO l (IntKind.wrap .i64 (Int.fdiv (IntKind.wrap .u64 (IntKind.wrap .i64 (i4 + j5))) 2))).bind fun x7 =>
    (hold_place_1 x7 n).bind fun x8 =>
    if (decide (x8 < 0)) = true then
     some (.inl (IntKind.wrap .i64 ((IntKind.wrap .i64 (Int.fdiv (IntKind.wrap .u64 (IntKind.wrap .i64 (i4 + j5))) 2)) + 1), j5))
    else
     some (.inl (i4, IntKind.wrap .i64 (Int.fdiv (IntKind.wrap .u64 (IntKind.wrap .i64 (i4 + j5))) 2)))
   else
    some (.inr i4))) hn
   (by
    intro i j hij hj
    simp only [decide_eq_true_eq, half hij (show j < 4611686018427387904 by omega)]
    have hm : (i + j) / 2 < l.length := by omega
    rw [if_pos (by omega), rdO_at hm]
    simp only [Option.bind_some, hold_place_1_eq]
    rw [List.getElem?_eq_getElem hm]
    have e : IntKind.wrap .i64 ((((i + j) / 2 : Nat) : Int) + 1) = (((i + j) / 2 + 1 : Nat) : Int) := by rw [wrap64 (by omega) (by omega)]; rfl
    by_cases h : (l[(i + j) / 2]).f_ID < n
    ·simp [h]
     exact e
    ·simp [h]
     split <;> simp)
   (by
    intro i
    simp only [decide_eq_true_eq]
    rw [if_neg (by omega)])
  have hless : ∀ i (hi : i < l.length), i < k → l[i].f_ID < n := by
   intro i hi hik
   have h3 := h1 (by omega)
   rw [List.getElem?_eq_getElem (by omega)] at h3
   simp only [Option.any_some, decide_eq_true_eq] at h3
   by_cases he : i = k - 1
   ·subst he; exact h3
   ·have := hr.lt (j := k - 1) (i := i) (by omega) (by omega)
    try simp only at this
    omega
  rw [hl]
  simp only [Option.bind_some]
  by_cases hkl : k < l.length
  ·have h4 := h2 hkl
   rw [List.getElem?_eq_getElem hkl] at h4
   simp only [Option.any_some, decide_eq_false_iff_not] at h4
   have hdec : decide ((k : Int) < (l.length : Int)) = true := by simpa using hkl
   rw [hdec]
   simp only [gdO, rdO_at hkl, Option.bind_some, hold_place_1_eq, Bool.true_and]
   by_cases he : l[k].f_ID = n
   ·refine ⟨k, true, ?_, hk, fun _ => ⟨hkl, he⟩, (fun h => by cases h), hless, (fun h => by cases h)⟩
    simp [he]
   ·have hup : ∀ i (hi : i < l.length), k ≤ i → n < l[i].f_ID := fun i hi hik => by
     have : ¬ l[k].f_ID < n := h4
     have h5 : l[k].f_ID > n := by omega
     by_cases hik' : i = k
     ·subst hik'; omega
     ·have := hr.lt (j := i) (i := k) hi (by omega)
      try simp only at this
      omega
    refine ⟨k, false, ?_, hk, (fun h => by cases h), (fun _ x hx hxn => ?_), hless, fun _ => hup⟩
    ·have : ¬ l[k].f_ID < n := h4
     have h5 : l[k].f_ID > n := by omega
     simp [this, h5]
    ·obtain ⟨i, hi, rfl⟩ := List.getElem_of_mem hx
     by_cases hik : i < k
     ·have := hless i hi hik; omega
     ·by_cases hik' : i = k
      ·subst hik'; exact he hxn
      ·have := hr.lt (j := i) (i := k) hi (by omega)
       try simp only at this
       omega
  ·have hdec : decide ((k : Int) < (l.length : Int)) = false := by simpa using hkl
   rw [hdec]
   simp only [gdO, Option.bind_some, Bool.false_and]
   refine ⟨k, false, rfl, hk, (fun h => by cases h), (fun _ x hx hxn => ?_), hless, fun _ i hi hik => by omega⟩
   obtain ⟨i, hi, rfl⟩ := List.getElem_of_mem hx
   have := hless i hi (by omega)
   omega
 obtain ⟨k, b, h1, hk, h2, h3, h4, h5⟩ := hbs
 refine ⟨k, b, ?_, hk, h2, h3, h4, h5⟩
 unfold hold_place
 rw [h1]
 rfl
theorem place_at {l : List T_api_Hold} {n : Int} (hg : GoodL l) {i : Nat} (h : i < l.length) (he : l[i].f_ID = n) : hold_place l n = some ((i : Int), true) := by
 obtain ⟨k, b, e, _, h1, h2, _, _⟩ := hold_place_spec l n (by have := hg.few; omega) hg.rise
 cases b with
 | false => exact absurd he (h2 rfl _ (List.getElem_mem h))
 | true =>
  obtain ⟨hk, he'⟩ := h1 rfl
  rw [e, hg.rise.inj hk h (by omega)]
theorem place_none {l : List T_api_Hold} {n : Int} (hg : GoodL l) (h : ∀ x ∈ l, x.f_ID ≠ n) : ∃ k : Nat, k ≤ l.length ∧ hold_place l n = some ((k : Int), false) ∧ (∀ i (hi : i < l.length), i < k → l[i].f_ID < n) ∧ (∀ i (hi : i < l.length), k ≤ i → n < l[i].f_ID) := by
 obtain ⟨k, b, e, hk, h1, h2, hlo, hup⟩ := hold_place_spec l n (by have := hg.few; omega) hg.rise
 cases b with
 | false => exact ⟨k, hk, e, hlo, hup rfl⟩
 | true =>
  obtain ⟨hk, he'⟩ := h1 rfl
  exact absurd he' (h _ (List.getElem_mem hk))
theorem clone_eq {l : List T_api_Hold} (h : l.length ≤ 1000) : slices_Clone 64 l = some l := by
 unfold slices_Clone
 rw [if_pos (by omega)]
def insH (h : T_api_Hold) : List T_api_Hold → List T_api_Hold
 | [] => [h]
 | x :: t => if h.f_ID < x.f_ID then h :: x :: t else x :: insH h t
theorem insH_split {h : T_api_Hold} : ∀ {a b : List T_api_Hold}, (∀ x ∈ a, ¬ h.f_ID < x.f_ID) → (∀ x ∈ b, h.f_ID < x.f_ID) → insH h (a ++ b) = a ++ h :: b
 | [], [], _, _ => rfl
 | [], x :: t, _, hb => by
  show (if h.f_ID < x.f_ID then h :: x :: t else x :: insH h t) = h :: x :: t
  rw [if_pos (hb x (by simp))]
 | x :: t, b, ha, hb => by
  show (if h.f_ID < x.f_ID then h :: x :: (t ++ b) else x :: insH h (t ++ b)) = x :: (t ++ h :: b)
  rw [if_neg (ha x (by simp)), insH_split (fun y hy => ha y (by simp [hy])) hb]
theorem insH_length {h : T_api_Hold} : ∀ {l : List T_api_Hold}, (insH h l).length = l.length + 1
 | [] => rfl
 | x :: t => by
  show (if h.f_ID < x.f_ID then h :: x :: t else x :: insH h t).length = _
  split
  ·simp
  ·simp [insH_length (l := t)]
theorem any_id {l : List T_api_Hold} {n : Int} : (l.any fun x => x.f_ID == n) = false ↔ ∀ x ∈ l, x.f_ID ≠ n := by simp
theorem id_at {l : List T_api_Hold} {n : Int} (h : (l.any fun x => x.f_ID == n) = true) : ∃ (i : Nat) (hi : i < l.length), l[i].f_ID = n := by
 obtain ⟨x, hx, he⟩ := List.any_eq_true.1 h
 obtain ⟨i, hi, rfl⟩ := List.getElem_of_mem hx
 exact ⟨i, hi, by simpa using he⟩
def addH (l : List T_api_Hold) (h : T_api_Hold) : List T_api_Hold × Int :=
 if (!okH h || decide (0 < h.f_Taken) || h.f_Done) = true then ([], 1) else if (l.any fun x => x.f_ID == h.f_ID) = true then ([], 26) else if 200 ≤ l.length then ([], 6) else (insH h l, 0)
theorem add_eq {l : List T_api_Hold} (hg : GoodL l) (h : T_api_Hold) : hold_Add l h = some (addH l h) := by
 have hf := hg.few
 unfold hold_Add addH
 rw [check_eq l (by omega), chkH_good.2 hg]
 simp only [Option.bind_some, bne_self_eq_false, Bool.false_eq_true, if_false, right_eq]
 cases ha : l.any fun x => x.f_ID == h.f_ID with
 | true =>
  obtain ⟨i, hi, he⟩ := id_at ha
  rw [place_at hg hi he]
  simp only [Option.bind_some, if_true, gt_iff_lt]
  split <;> rfl
 | false =>
  obtain ⟨k, hk, e, hlo, hup⟩ := place_none hg (any_id.1 ha)
  rw [e]
  simp only [Option.bind_some, Bool.false_eq_true, if_false, gt_iff_lt]
  split
  ·rfl
  ·by_cases h2 : 200 ≤ l.length
   ·rw [if_pos (by rw [decide_eq_true_eq]; omega), if_pos h2]
   ·rw [if_neg (by rw [decide_eq_true_eq]; omega), if_neg h2, clone_eq (by omega)]
    have hi : insO 64 l (k : Int) h = some (insH h l) := by
     unfold insO
     rw [if_pos ⟨by omega, by omega, by omega⟩]
     have e2 : insH h (l.take k ++ l.drop k) = l.take k ++ h :: l.drop k := insH_split (fun x hx => by
      obtain ⟨j, hj, rfl⟩ := List.getElem_of_mem hx
      simp only [List.length_take] at hj
      rw [List.getElem_take]
      have := hlo j (by omega) (by omega)
      omega) (fun x hx => by
      obtain ⟨j, hj, rfl⟩ := List.getElem_of_mem hx
      simp only [List.length_drop] at hj
      rw [List.getElem_drop]
      exact hup (k + j) (by omega) (by omega))
     rw [List.take_append_drop] at e2
     rw [e2]; rfl
    simp only [Option.bind_some, hi]
end Go.Av.G
end
section
set_option linter.unusedVariables false
set_option linter.unusedSimpArgs false
set_option maxRecDepth 4000
set_option maxHeartbeats 4000000
namespace Go.Av.G
open Go Go.Av Go.Proofs
def withH (t : T_api_Till) (l : List T_api_Hold) : T_api_Till := ⟨t.f_Chart, t.f_L, l, t.f_Limits⟩
def noT : T_api_Till := ⟨⟨[], []⟩, [], [], []⟩
theorem few_with {t : T_api_Till} (hf : FewT t) {l : List T_api_Hold} (hl : l.length ≤ 100) : FewT (withH t l) := ⟨hf.chart, hf.legs, hl, hf.limits⟩
theorem right_with {t : T_api_Till} (hr : RightT t) {l : List T_api_Hold} (hl : GoodL l) : RightT (withH t l) := ⟨hr.chart, hr.few, hl, hr.limits⟩
theorem good_nil : GoodL [] := ⟨by simp, fun i h => by simp at h, by simp⟩
theorem free_with (t : T_api_Till) (l : List T_api_Hold) (acc now rank : Int) : freeT (withH t l) acc now rank = fundsT t acc now + limR t.f_Limits acc - sumL l acc (recT t acc).f_Cur now rank := rfl
theorem free_bare (t : T_api_Till) (acc now rank : Int) : freeT (withH t []) acc now rank = fundsT t acc now + limR t.f_Limits acc := by
 rw [free_with]
 simp [sumL]
theorem wH_mono {acc cur now r r' : Int} (h : r ≤ r') (x : T_api_Hold) : wH acc cur now r' x ≤ wH acc cur now r x := by
 have := restH_range x now
 unfold wH
 split
 ·rename_i h1
  rw [if_pos ⟨h1.1, h1.2.1, by omega⟩]
  omega
 ·split <;> omega
theorem sumL_mono {acc cur now r r' : Int} (h : r ≤ r') : ∀ l : List T_api_Hold, sumL l acc cur now r' ≤ sumL l acc cur now r
 | [] => by simp [sumL]
 | x :: l => by
  have h1 := wH_mono (acc := acc) (cur := cur) (now := now) h x
  have h2 := sumL_mono (acc := acc) (cur := cur) (now := now) h l
  unfold sumL at h2 ⊢
  simp only [List.map_cons, List.sum_cons]
  omega
theorem free_mono {t : T_api_Till} {acc now r r' : Int} (h : r ≤ r') : freeT t acc now r ≤ freeT t acc now r' := by
 have := sumL_mono (acc := acc) (cur := (recT t acc).f_Cur) (now := now) h t.f_Holds
 unfold freeT
 omega
theorem free_top (t : T_api_Till) (acc now r : Int) : freeT t acc now r ≤ fundsT t acc now + limR t.f_Limits acc := by
 have := sumL_range acc (recT t acc).f_Cur now r t.f_Holds
 unfold freeT
 omega
theorem rec_ok {t : T_api_Till} (hr : RightT t) {acc now : Int} (hw : whyT t acc now = 0) : 1 ≤ acc ∧ acc ≤ 999 ∧ 0 ≤ (recT t acc).f_Cur ∧ (recT t acc).f_Cur < 4 ∧ -50000 ≤ now ∧ now ≤ 50000 := by
 obtain ⟨i, hi, _, he, ha, hv⟩ := whyT_rec hw
 obtain ⟨_, h1, h2, _⟩ := whyR_ok hv
 have hb := hr.chart.2.2.2.2.2 _ (List.getElem_mem hi)
 unfold badR at hb
 simp only [Bool.or_eq_false_iff, Bool.not_eq_false'] at hb
 have hk := of_decide_eq_true hb.1
 rw [he]
 rw [ha] at hk
 omega
end Go.Av.G
end
section
set_option linter.unusedVariables false
set_option linter.unusedSimpArgs false
set_option maxRecDepth 4000
set_option maxHeartbeats 4000000
namespace Go.Av.G
open Go Go.Av Go.Proofs
theorem cloneN {α : Type} {n : Nat} {l : List α} (h : l.length * n ≤ 140737488355328) : slices_Clone n l = some l := by
 unfold slices_Clone
 rw [if_pos h]
theorem with_loop {l : List T_api_Posting} (hl : FitL l) :
  loopO (fun (qj5 : Int × (List T_api_Posting)) => match qj5 with
  | (x6, row7) => (
   if (decide (x6 < (l.length : Int))) = true then
    (rdO l x6).bind fun x8 =>
    (slices_Clone 24 x8.f_Legs).bind fun x9 =>
    (apO 72 row7 [(⟨x8.f_ID, x8.f_Known, x8.f_Value, x9, x8.f_Reverses, x8.f_Kind, x8.f_Memo⟩ : T_api_Posting)]).bind fun x10 =>
    some (.inl (IntKind.wrap .i64 (x6 + 1), x10))
   else
    some (.inr row7) : Option ((Int × (List T_api_Posting)) ⊕ (List T_api_Posting)))) (0, ([] : List T_api_Posting)) = some (l.map fun x => x) := by
 have hm : (l.map fun x => x) = l.foldl (fun s x => s ++ [x]) [] := by rw [foldl_map (fun x : T_api_Posting => x)]; rfl
 have hn := hl.few
 rw [hm, loopL_fold (l := l) (fun s x => s ++ [x]) (fun s => s) (by omega)]
 ·intro i h
  have hc : slices_Clone 24 (l[i]).f_Legs = some (l[i]).f_Legs := by
   refine cloneN ?_
   have := hl.legs _ (List.getElem_mem h)
   omega
  have hap : ∀ x, apO 72 ((l.take i).foldl (fun s x => s ++ [x]) []) [x] = some ((l.take i).foldl (fun s x => s ++ [x]) [] ++ [x]) := by
   intro x
   refine apO_eq ?_
   rw [foldl_map (fun x : T_api_Posting => x)]
   simp
   omega
  simp only [decide_eq_true_eq]
  rw [if_pos (by omega), rdO_at h]
  simp only [Option.bind_some, hc, hap]
 ·simp only [decide_eq_true_eq]
  rw [if_neg (by omega)]
theorem with_eq {t : T_api_Till} (hf : FewT t) (hr : RightT t) {l : List T_api_Hold} (hl : l.length ≤ 200) : avail_with t l = some (withH t l) := by
 have h1 := hf.chart.1
 have h2 := hf.chart.2.1
 have h3 := hf.limits
 unfold avail_with
 rw [cloneN (n := 32) (l := t.f_Chart.f_Customers) (by omega), cloneN (n := 56) (l := t.f_Chart.f_Records) (by omega)]
 simp only [Option.bind_some]
 refine bind_at (with_loop (hf.legs hr.few)) ?_
 rw [cloneN (n := 64) (l := l) (by omega), cloneN (n := 16) (l := t.f_Limits) (by omega)]
 simp only [Option.bind_some, List.map_id']
 rfl
def placeT (t : T_api_Till) (h : T_api_Hold) : T_api_Till × Bool × Int :=
 if (addH t.f_Holds h).2 ≠ 0 then (noT, false, (addH t.f_Holds h).2)
 else if whyT t h.f_Acc h.f_Made ≠ 0 then (noT, false, whyT t h.f_Acc h.f_Made)
 else if h.f_Amount.f_Cur ≠ (recT t h.f_Acc).f_Cur then (noT, false, 12)
 else if freeT t h.f_Acc h.f_Made h.f_Rank < h.f_Amount.f_Minor then (t, false, 0)
 else (withH t (addH t.f_Holds h).1, true, 0)
theorem addH_few (l : List T_api_Hold) (h : T_api_Hold) : (addH l h).1.length ≤ l.length + 1 := by
 unfold addH
 split
 ·simp
 ·split
  ·simp
  ·split
   ·simp
   ·rw [insH_length]; exact Nat.le_refl _
theorem Place_at {t : T_api_Till} (hf : FewT t) (hr : RightT t) (h : T_api_Hold) : avail_Place t h = some (placeT t h) := by
 obtain ⟨a, ha, hv⟩ := ask_spec hf hr h.f_Acc h.f_Made
 have hh := hf.holds
 have hl := addH_few t.f_Holds h
 unfold avail_Place placeT
 rw [ARight_at hf hr]
 simp only [Option.bind_some, Bool.not_true, Bool.false_eq_true, if_false, add_eq hr.holds]
 by_cases hb : (addH t.f_Holds h).2 = 0
 ·have hb' : ((addH t.f_Holds h).2 != 0) = false := by simpa using hb
  rw [if_neg (not_not_intro hb)]
  simp only [hb', Bool.false_eq_true, if_false, ha, Option.bind_some]
  by_cases hw : whyT t h.f_Acc h.f_Made = 0
  ·obtain rfl := hv hw
   rw [if_pos hw, if_neg (not_not_intro hw)]
   simp only [Option.isSome_none, Bool.false_eq_true, if_false]
   by_cases hc : h.f_Amount.f_Cur = (recT t h.f_Acc).f_Cur
   ·have hc' : (h.f_Amount.f_Cur != (recT t h.f_Acc).f_Cur) = false := by simpa using hc
    rw [if_neg (not_not_intro hc)]
    simp only [hc', Bool.false_eq_true, if_false, free_eq hf hr hw, Option.bind_some, decide_eq_true_eq]
    by_cases hm : freeT t h.f_Acc h.f_Made h.f_Rank < h.f_Amount.f_Minor
    ·rw [if_pos hm, if_pos hm, with_eq hf hr (by omega)]
     rfl
    ·rw [if_neg hm, if_neg hm, with_eq hf hr (by omega)]
     rfl
   ·have hc' : (h.f_Amount.f_Cur != (recT t h.f_Acc).f_Cur) = true := by simpa using hc
    rw [if_pos hc]
    simp only [hc', if_true]
    rfl
  ·rw [if_neg hw, if_pos hw]
   simp only [Option.isSome_some, if_true, avail_whyOf, Option.getD_some, Option.bind_some]
   rfl
 ·have hb' : ((addH t.f_Holds h).2 != 0) = true := by simpa using hb
  rw [if_pos hb]
  simp only [hb', if_true]
  rfl
end Go.Av.G
end
section
set_option linter.unusedVariables false
set_option linter.unusedSimpArgs false
set_option maxRecDepth 4000
set_option maxHeartbeats 4000000
namespace Go.Av.G
open Go Go.Av Go.Proofs
theorem ranks_loop {t : T_api_Till} (hf : FewT t) (hr : RightT t) {acc now : Int} (hw : whyT t acc now = 0) {A : Int} (hA : A = fundsT t acc now + limR t.f_Limits acc) (hbare : ∀ rank : Int, 0 ≤ rank ∧ rank ≤ 9 → avail_Free (⟨t.f_Chart, t.f_L, ([] : List T_api_Hold), t.f_Limits⟩ : T_api_Till) acc now rank = some (A, 0)) :
  loopO (fun (qj9 : Int × Int) => match qj9 with
   | (last10, x11) => (
    if (decide (x11 < 10)) = true then
     (avail_Free t acc now x11).bind fun x12 =>
     (avail_Free (⟨t.f_Chart, t.f_L, ([] : List T_api_Hold), t.f_Limits⟩ : T_api_Till) acc now x11).bind fun x13 =>
     (some (x12.2 != 0)).bind fun c14 =>
     (some (c14 || (x13.2 != 0))).bind fun c15 =>
     (some (c15 || (x13.1 != A))).bind fun c16 =>
     (some (c16 || (decide (x12.1 > A)))).bind fun c17 =>
     (some (decide (x11 > 0))).bind fun c18 =>
     if (c17 || (c18 && (decide (x12.1 < last10)))) = true then
      some (.inr (.inr false))
     else
      some (.inl (x12.1, IntKind.wrap .i64 (x11 + 1)))
    else
     some (.inr (.inl ())) : Option ((Int × Int) ⊕ (Unit ⊕ Bool)))) (0, 0) = some (.inl ()) := by
 refine loopG (n := 10) (fun k : Nat => ((if k = 0 then 0 else freeT t acc now ((k : Int) - 1)), (k : Int))) ?_ ?_
 ·intro k hk
  have h1 := Free_at hf hr (acc := acc) (now := now) (rank := (k : Int)) ⟨by omega, by omega⟩ hw
  have h2 := hbare k ⟨by omega, by omega⟩
  have hd : decide ((k : Int) < 10) = true := by simp; omega
  have htop := free_top t acc now k
  have e1 : decide (freeT t acc now k > A) = false := decide_eq_false (by omega)
  have e2 : (decide ((k : Int) > 0) && decide (freeT t acc now k < (if k = 0 then 0 else freeT t acc now ((k : Int) - 1)))) = false := by
   by_cases h0 : k = 0
   ·subst h0; simp
   ·have := free_mono (t := t) (acc := acc) (now := now) (r := (k : Int) - 1) (r' := k) (by omega)
    rw [if_neg h0, decide_eq_false (show ¬ freeT t acc now k < freeT t acc now ((k : Int) - 1) by omega), Bool.and_false]
  have e3 : IntKind.wrap .i64 ((k : Int) + 1) = ((k + 1 : Nat) : Int) := wrapS (by omega)
  simp only [hd, if_true, h1, h2, Option.bind_some, bne_self_eq_false, Bool.or_self, Bool.false_or, e1, e2, Bool.false_eq_true, if_false, e3]
  have e4 : ((k + 1 : Nat) : Int) - 1 = k := by omega
  rw [if_neg (show ¬ (k + 1 = 0) by omega), e4]
 ·simp only [decide_eq_true_eq]
  rw [if_neg (by omega)]
theorem top_loop (l : List T_api_Hold) (hn : l.length ≤ 1000) : ∃ n : Int, 1 ≤ n ∧
  loopO (fun (qj24 : Int × Int) => match qj24 with
     | (top25, x26) => (
      if (decide (x26 < (l.length : Int))) = true then
       (rdO l x26).bind fun x27 =>
       some (.inl ((if IntKind.wrap .i64 (x27.f_ID + 1) > top25 then IntKind.wrap .i64 (x27.f_ID + 1) else top25), IntKind.wrap .i64 (x26 + 1)))
      else
       some (.inr top25) : Option ((Int × Int) ⊕ Int))) (1, 0) = some n := by
 have key : ∀ (t pre : List T_api_Hold) (top : Int), l = pre ++ t → 1 ≤ top → ∃ n : Int, 1 ≤ n ∧
  loopO (fun (qj24 : Int × Int) => match qj24 with
     | (top25, x26) => (
      if (decide (x26 < (l.length : Int))) = true then
       (rdO l x26).bind fun x27 =>
       some (.inl ((if IntKind.wrap .i64 (x27.f_ID + 1) > top25 then IntKind.wrap .i64 (x27.f_ID + 1) else top25), IntKind.wrap .i64 (x26 + 1)))
      else
       some (.inr top25) : Option ((Int × Int) ⊕ Int))) (top, (pre.length : Int)) = some n := by
  intro t
  induction t with
  | nil =>
   intro pre top he h1
   refine ⟨top, h1, loopO_out ?_⟩
   have : decide ((pre.length : Int) < (l.length : Int)) = false := by rw [he]; simp
   simp only [this, Bool.false_eq_true, if_false]
  | cons x t ih =>
   intro pre top he h1
   have hlen : l.length = pre.length + (t.length + 1) := by rw [he]; simp
   have hd : decide ((pre.length : Int) < (l.length : Int)) = true := by simp; omega
   have hx : rdO l (pre.length : Int) = some x := by rw [he]; exact rd_mid rfl
   have e1 : IntKind.wrap .i64 ((pre.length : Int) + 1) = (((pre ++ [x]).length : Nat) : Int) := wN (by simp) (by simp; omega)
   obtain ⟨n, hn1, hn2⟩ := ih (pre ++ [x]) (if IntKind.wrap .i64 (x.f_ID + 1) > top then IntKind.wrap .i64 (x.f_ID + 1) else top) (by simp [he]) (by split <;> omega)
   refine ⟨n, hn1, ?_⟩
   rw [loopO_on (s' := ((if IntKind.wrap .i64 (x.f_ID + 1) > top then IntKind.wrap .i64 (x.f_ID + 1) else top), (((pre ++ [x]).length : Nat) : Int))), hn2]
   simp only [hd, if_true, hx, Option.bind_some, e1]
 exact key l [] 1 rfl (by omega)
theorem availRanks_law (t : T_api_Till) (acc now : Int) (m : T_api_Money) (h1 : t.wf) (h2 : inR .i64 acc) (h3 : inR .i32 now) (h4 : m.wf) : cashbooklaw26_AvailRanks t acc now m = some true := by
 unfold cashbooklaw26_AvailRanks
 rw [few_eq]
 have hf := cut_few h1
 generalize cutT t = t at hf
 simp only [Option.bind_some]
 by_cases hr : RightT t
 ·by_cases hw : whyT t acc now = 0
  ·rw [Funds_at hf hr hw]
   have hbare : ∀ rank : Int, 0 ≤ rank ∧ rank ≤ 9 → avail_Free (⟨t.f_Chart, t.f_L, ([] : List T_api_Hold), t.f_Limits⟩ : T_api_Till) acc now rank = some (fundsT t acc now + limR t.f_Limits acc, 0) := by
    intro rank hk
    rw [← free_bare t acc now rank]
    exact Free_at (few_with hf (l := []) (by simp)) (right_with hr good_nil) hk hw
   have hlim := limR_range hr.limits acc
   simp only [Option.bind_some, bne_self_eq_false, Bool.false_eq_true, if_false, hbare 0 ⟨by omega, by omega⟩]
   refine bind_at (ranks_loop hf hr hw rfl hbare) ?_
   simp only []
   rw [Pay_at hf hr hw, alive]
   have e : decide (fundsT t acc now + limR t.f_Limits acc < fundsT t acc now) = false := decide_eq_false (by omega)
   simp only [Option.bind_some, bne_self_eq_false, e, Bool.or_self, Bool.not_false, gdO_some, cond_true, Bool.not_true, Bool.false_eq_true, if_false]
   by_cases hc : m.f_Cur = (recT t acc).f_Cur
   ·rw [if_neg (not_not_intro hc)]
    by_cases hm : 1 ≤ m.f_Minor ∧ m.f_Minor ≤ 1000000000000000
    ·rw [if_neg (not_not_intro hm)]
     by_cases hfree : m.f_Minor ≤ freeT t acc now 0
     ·have hh := hf.holds
      obtain ⟨n, hn, hlp⟩ := top_loop t.f_Holds (by omega)
      rw [decide_eq_true hfree]
      simp only [bne_self_eq_false, Bool.not_true, Bool.or_self, Bool.false_eq_true, if_false]
      refine bind_at hlp ?_
      rw [Place_at hf hr]
      have hrec := rec_ok hr hw
      have hn2 : 1 ≤ (if 1000000 < n then 1000000 else n) ∧ (if 1000000 < n then 1000000 else n) ≤ 1000000 := by split <;> omega
      have hok : okH ⟨(if 1000000 < n then 1000000 else n), acc, m, 0, now, now, 0, false⟩ = true := by
       unfold okH
       refine decide_eq_true ?_
       simp only
       omega
      generalize (if 1000000 < n then 1000000 else n) = id at hn2 hok ⊢
      unfold placeT addH
      simp only [hok, Bool.not_true, Int.lt_irrefl, decide_false, Bool.or_self, Bool.false_eq_true, if_false]
      cases hd : t.f_Holds.any fun x => x.f_ID == id with
      | true => simp
      | false =>
       simp only [Bool.false_eq_true, if_false]
       by_cases hfull : 200 ≤ t.f_Holds.length
       ·simp [hfull]
       ·have e1 : ¬ freeT t acc now 0 < m.f_Minor := by omega
        have e2 : IntKind.wrap .i64 ((t.f_Holds.length : Int) + 1) = (t.f_Holds.length : Int) + 1 := wrap64 (by omega) (by omega)
        simp [hfull, hw, hc, e1, e2, withH, insH_length]
     ·simp [hfree]
    ·rw [if_pos hm]
     simp
   ·rw [if_pos hc]
    simp
  ·rw [Funds_why hf hr hw, alive]
   simp [hw]
 ·rw [Funds_bad hf hr, alive]
  rfl
end Go.Av.G
end
