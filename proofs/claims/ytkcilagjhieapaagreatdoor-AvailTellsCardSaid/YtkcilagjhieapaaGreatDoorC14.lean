import Derived.Test.YtkcilagjhieapaaGreatDoorProg
import Derived.WalkKit
import Derived.LaidEql
import Derived.Stop.Asserts
import Derived.RowKitTokens
import Derived.Test.YtkcilagjhieapaaGreatDoorC13
section
namespace Go.Proofs.YtkcilagjhieapaaGreatDoor
open Go.RowKit Go.Extern.Stop Go.Stop Go.Extern
theorem as_nil (t : Value) (w : World) :
  Calls Tryz.prog 70 #[.nilIface, t] w fun e w' => e = .returned (.bool false) ∧ w' = w := by
 go_enter Tryz.func70, Tryz.ntmps70
 go_wp2
 go_ret
 exact ⟨rfl, rfl⟩
theorem Tz.valueOfP (t : Addr) (w : World) : (ReflectliteValue.unpack (.iface 119 (.pointer (some t)))).run Tryz.prog w
  = .ok (.agg #[.pointer (some ⟨1, 119, none⟩), .pointer (some ⟨w.heap.size, 0, none⟩), .int .u64 150]) (w.alloc (.cells #[.pointer (some t)] 119)) := by kernel_rfl
theorem Tz.typeP (a : Addr) (w : World) : (ReflectliteValue.methodAny (ReflectliteValue.valueError "reflectlite.Value.Type" 0) (fun t _ _ _ => ReflectliteType.toType t) #[.agg #[.pointer (some ⟨1, 119, none⟩), .pointer (some a), .int .u64 150]]).run Tryz.prog w
  = .ok (.iface 200 (.agg #[.pointer (some ⟨1, 119, none⟩)])) w := by kernel_rfl
theorem Tz.methodKind (h : Value) (w : World) : (Go.method 352 200 (.agg #[h]) "Kind").run Tryz.prog w = .ok (168, h) w := by kernel_rfl
theorem Tz.kindP (w : World) : ((ReflectliteType.abiMethod fun t => (fun a : Nat => Value.int IntKind.u8 (a : Int)) <$> Rtype.kind t) #[.pointer (some ⟨1, 119, none⟩)]).run Tryz.prog w = .ok (.int .u8 22) w := by kernel_rfl
theorem Tz.kindR (w : World) : ((ReflectliteType.abiMethod fun t => (fun a : Nat => Value.int IntKind.u8 (a : Int)) <$> Rtype.kind t) #[.pointer (some ⟨1, 113, none⟩)]).run Tryz.prog w = .ok (.int .u8 25) w := by kernel_rfl
theorem rlm (z : Sem Value) (f : TypeId → Addr → Nat → Nat → Sem Value) (v : Value) :
  ReflectliteValue.method z f #[v] = (do match ← ReflectliteValue.parts v with | none => z | some (t, a, fl) => f t a fl (fl % 32)) := rfl
theorem Tz.partsP (a : Addr) (w : World) : (ReflectliteValue.parts (.agg #[.pointer (some ⟨1, 119, none⟩), .pointer (some a), .int .u64 150])).run Tryz.prog w = .ok (some (119, a, 150)) w := by kernel_rfl
theorem Tz.isNilP (a p : Addr) (W : World) (ha : W.cell? a = some (.pointer (some p))) :
  (ReflectliteValue.method (ReflectliteValue.valueError "reflectlite.Value.IsNil" 0) ReflectliteValue.isNil #[.agg #[.pointer (some ⟨1, 119, none⟩), .pointer (some a), .int .u64 150]]).run Tryz.prog W = .ok (.bool false) W := by
 rw [rlm]
 simp only [Sem.run_bind, Tz.partsP, Result.andThen]
 simp [ReflectliteValue.isNil, loadVar, isAgg, underlying, Tryz.underlying119, ha, Result.andThen]
theorem Tz.methodElem (h : Value) (w : World) : (Go.method 352 200 (.agg #[h]) "Elem").run Tryz.prog w = .ok (179, .agg #[h]) w := by kernel_rfl
theorem Tz.methodImplements (h : Value) (w : World) : (Go.method 352 200 (.agg #[h]) "Implements").run Tryz.prog w = .ok (180, .agg #[h]) w := by kernel_rfl
theorem Tz.methodAssignableTo (h : Value) (w : World) : (Go.method 352 200 (.agg #[h]) "AssignableTo").run Tryz.prog w = .ok (177, .agg #[h]) w := by kernel_rfl
theorem Tz.elemP (w : World) : (ReflectliteType.method ReflectliteType.elem #[.agg #[.pointer (some ⟨1, 119, none⟩)]]).run Tryz.prog w = .ok (.iface 200 (.agg #[.pointer (some ⟨1, 113, none⟩)])) w := by kernel_rfl
theorem Tz.implementsR (w : World) : (ReflectliteType.relation "Implements" ReflectliteType.implements_ #[.agg #[.pointer (some ⟨1, 113, none⟩)], .iface 200 (.agg #[.pointer (some ⟨1, 72, none⟩)])]).run Tryz.prog w = .ok (.bool true) w := by kernel_rfl
theorem Tz.typeOfR (v : Value) (w : World) : (ReflectliteType.typeOf #[.iface 113 v]).run Tryz.prog w = .ok (.iface 200 (.agg #[.pointer (some ⟨1, 113, none⟩)])) w := by kernel_rfl
theorem Tz.assignableR (w : World) : (ReflectliteType.relation "AssignableTo" ReflectliteType.assignableTo #[.agg #[.pointer (some ⟨1, 113, none⟩)], .iface 200 (.agg #[.pointer (some ⟨1, 113, none⟩)])]).run Tryz.prog w = .ok (.bool true) w := by kernel_rfl
theorem Tz.valueOfR (e : Int) (w : World) : (ReflectliteValue.unpack (.iface 113 (.agg #[.int .i64 e]))).run Tryz.prog w
  = .ok (.agg #[.pointer (some ⟨1, 113, none⟩), .pointer (some ⟨w.heap.size, 0, none⟩), .int .u64 153]) (w.alloc (.cells #[.int .i64 e] 113)) := by kernel_rfl
theorem Tz.elemOfP (w : World) : (Rtype.elem? 119).run Tryz.prog w = .ok (some 113) w := by kernel_rfl
theorem Tz.mkR (p : Addr) (w : World) : (ReflectliteValue.mk 113 p ReflectliteValue.flagAddr).run Tryz.prog w = .ok (.agg #[.pointer (some ⟨1, 113, none⟩), .pointer (some p), .int .u64 409]) w := by kernel_rfl
theorem Tz.elemVP (a p : Addr) (W : World) (ha : W.cell? a = some (.pointer (some p))) :
  (ReflectliteValue.method (ReflectliteValue.valueError "reflectlite.Value.Elem" 0) ReflectliteValue.elem #[.agg #[.pointer (some ⟨1, 119, none⟩), .pointer (some a), .int .u64 150]]).run Tryz.prog W
   = .ok (.agg #[.pointer (some ⟨1, 113, none⟩), .pointer (some p), .int .u64 409]) W := by
 rw [rlm]
 simp only [Sem.run_bind, Tz.partsP, Result.andThen]
 simp [ReflectliteValue.elem, loadVar, isAgg, underlying, Tryz.underlying119, ha, Result.andThen, Tz.elemOfP, Tz.mkR]
theorem rls (v x : Value) : ReflectliteValue.set #[v, x] = (do
  let (some (dst, a, fl), some (src, b, _)) := (← ReflectliteValue.parts v, ← ReflectliteValue.parts x)
   | unsupported (.noEntry "extern/(internal/reflectlite.Value).Set.zeroValue")
  if fl / ReflectliteValue.flagAddr % 2 == 0 then unsupported (.noEntry "extern/(internal/reflectlite.Value).Set.unaddressable")
  let val ← loadVar src b
  if ← Rtype.directlyAssignable dst src then storeVar dst a val
  else if ← Rtype.implements dst src then
   if (← Rtype.kind src) == 20 then
    match val with
    | .nilIface => unsupported (.noEntry "extern/reflectlite: a nil value of one interface type handed on as a value of another")
    | _ => storeVar dst a val
   else storeVar dst a (.iface src val)
  else panicString ("reflectlite.Set: value of type " ++ (← Rtype.spelt src) ++ " is not assignable to type " ++ (← Rtype.spelt dst))
  pure (.tuple #[])) := rfl
theorem Tz.partsRa (a : Addr) (w : World) : (ReflectliteValue.parts (.agg #[.pointer (some ⟨1, 113, none⟩), .pointer (some a), .int .u64 409])).run Tryz.prog w = .ok (some (113, a, 409)) w := by kernel_rfl
theorem Tz.partsR (a : Addr) (w : World) : (ReflectliteValue.parts (.agg #[.pointer (some ⟨1, 113, none⟩), .pointer (some a), .int .u64 153])).run Tryz.prog w = .ok (some (113, a, 153)) w := by kernel_rfl
theorem Tz.directR (w : World) : (Rtype.directlyAssignable 113 113).run Tryz.prog w = .ok true w := by kernel_rfl
theorem Tz.sizeR (w : World) : (sizeOf 113).run Tryz.prog w = .ok 1 w := by kernel_rfl
theorem Tz.aggR (w : World) : (isAgg 113).run Tryz.prog w = .ok true w := by kernel_rfl
theorem Tz.loadR (b : Addr) (e : Int) (W : World) (hb : W.cell? b = some (.int .i64 e)) (hbs : b.spot = none) : (loadVar 113 b).run Tryz.prog W = .ok (.agg #[.int .i64 e]) W := by
 simp [loadVar, Tz.aggR, Tz.sizeR, Result.andThen, loadCells, loadCellsFrom, Addr.add, hb]
theorem Tz.storeR (ta : Addr) (e : Int) (old : Value) (W : World) (ht : W.cell? ta = some old) (hf : W.frozen? ta = false) : (storeVar 113 ta (.agg #[.int .i64 e])).run Tryz.prog W = .ok () (W.setCell ta (.int .i64 e)) := by
 simp [storeVar, Value.cells, storeCells, Addr.add, Tz.sizeR, Result.andThen]
 rw [run_store Tryz.prog W ta _ _ (by rfl)]
 simp [ht, hf]
theorem Tz.setR (ta b : Addr) (e : Int) (old : Value) (W : World) (hb : W.cell? b = some (.int .i64 e)) (hbs : b.spot = none) (ht : W.cell? ta = some old) (hf : W.frozen? ta = false) :
  (ReflectliteValue.set #[.agg #[.pointer (some ⟨1, 113, none⟩), .pointer (some ta), .int .u64 409], .agg #[.pointer (some ⟨1, 113, none⟩), .pointer (some b), .int .u64 153]]).run Tryz.prog W
   = .ok (.tuple #[]) (W.setCell ta (.int .i64 e)) := by
 rw [rls]
 simp only [Sem.run_bind, Tz.partsRa, Tz.partsR, Result.andThen]
 simp [ReflectliteValue.flagAddr, Result.andThen, Tz.directR, Tz.loadR b e W hb hbs, Tz.storeR ta e old W ht hf]
noncomputable def hitW (w : World) (t : Addr) (e : Int) : World := ((((w.alloc (.cells #[.pointer (some t)] 119)).alloc (.cells #[.pointer (some ⟨1, 119, none⟩), .pointer (some ⟨w.heap.size, 0, none⟩), .int .u64 150] 167)).alloc (.cells #[.pointer (some ⟨1, 119, none⟩), .pointer (some ⟨w.heap.size, 0, none⟩), .int .u64 150] 167)).alloc (.cells #[.int .i64 e] 113)).setCell t (.int .i64 e)
set_option maxHeartbeats 4000000 in
theorem as_hit (e : Int) (t : Addr) (old : Value) (w : World) (hg : w.cell? ⟨0, 0, none⟩ = some (.iface 200 (.agg #[.pointer (some ⟨1, 72, none⟩)]))) (ht0 : w.cell? t = some old) (hf0 : w.frozen? t = false) :
  Calls Tryz.prog 70 #[.iface 113 (.agg #[.int .i64 e]), .iface 119 (.pointer (some t))] w fun ev w' => ev = .returned (.bool true) ∧ w' = hitW w t e := by
 have h6 := @run_callFunc_extern Tryz.prog 113 _ (fun args => ReflectliteValue.unpack (args.getD 0 (.tuple #[]))) Tryz.func113 (by kernel_rfl) (by kernel_rfl) (by kernel_rfl) (by kernel_rfl)
 have h7 := @run_callFunc_extern Tryz.prog 114 _ (ReflectliteValue.methodAny (ReflectliteValue.valueError "reflectlite.Value.Type" 0) (fun t _ _ _ => ReflectliteType.toType t)) Tryz.func114 (by kernel_rfl) (by kernel_rfl) (by kernel_rfl) (by kernel_rfl)
 have h8 := @run_callFunc_extern Tryz.prog 115 _ (ReflectliteValue.method (ReflectliteValue.valueError "reflectlite.Value.IsNil" 0) ReflectliteValue.isNil) Tryz.func115 (by kernel_rfl) (by kernel_rfl) (by kernel_rfl) (by kernel_rfl)
 have h27 := @run_callFunc_extern Tryz.prog 168 _ (ReflectliteType.abiMethod fun t => do pure (.int .u8 (← Rtype.kind t))) Tryz.func168 (by kernel_rfl) (by kernel_rfl) (by kernel_rfl) (by kernel_rfl)
 have h37 := @run_callFunc_extern Tryz.prog 179 _ (ReflectliteType.method ReflectliteType.elem) Tryz.func179 (by kernel_rfl) (by kernel_rfl) (by kernel_rfl) (by kernel_rfl)
 have h38 := @run_callFunc_extern Tryz.prog 180 _ (ReflectliteType.relation "Implements" ReflectliteType.implements_) Tryz.func180 (by kernel_rfl) (by kernel_rfl) (by kernel_rfl) (by kernel_rfl)
 have h10 := @run_callFunc_extern Tryz.prog 141 _ ReflectliteType.typeOf Tryz.func141 (by kernel_rfl) (by kernel_rfl) (by kernel_rfl) (by kernel_rfl)
 have h35 := @run_callFunc_extern Tryz.prog 177 _ (ReflectliteType.relation "AssignableTo" ReflectliteType.assignableTo) Tryz.func177 (by kernel_rfl) (by kernel_rfl) (by kernel_rfl) (by kernel_rfl)
 have h11 := @run_callFunc_extern Tryz.prog 142 _ (ReflectliteValue.method (ReflectliteValue.valueError "reflectlite.Value.Elem" 0) ReflectliteValue.elem) Tryz.func142 (by kernel_rfl) (by kernel_rfl) (by kernel_rfl) (by kernel_rfl)
 have h12 := @run_callFunc_extern Tryz.prog 143 _ ReflectliteValue.set Tryz.func143 (by kernel_rfl) (by kernel_rfl) (by kernel_rfl) (by kernel_rfl)
 have tO := Tz.typeOfR
 have mA := Tz.methodAssignableTo
 have a25 := Tz.assignableR
 have v25 := Tz.valueOfR
 have f6 := Tz.valueOfP
 have f7 := Tz.typeP
 have mK := Tz.methodKind
 have mE := Tz.methodElem
 have mI := Tz.methodImplements
 have k27 := Tz.kindP
 have k25 := Tz.kindR
 have e27 := Tz.elemP
 have i25 := Tz.implementsR
 have n8 := Tz.isNilP ⟨w.heap.size, 0, none⟩ t ((w.alloc (.cells #[.pointer (some t)] 119)).alloc (.cells #[.pointer (some ⟨1, 119, none⟩), .pointer (some ⟨w.heap.size, 0, none⟩), .int .u64 150] 167)) (by simp)
 have hlt : 0 < w.heap.size := by
  rcases Nat.eq_zero_or_pos w.heap.size with h0 | h
  ·simp [World.cell?, h0] at hg
  ·exact h
 have hg2 : ((w.alloc (.cells #[.pointer (some t)] 119)).alloc (.cells #[.pointer (some ⟨1, 119, none⟩), .pointer (some ⟨w.heap.size, 0, none⟩), .int .u64 150] 167)).cell? ⟨0, 0, none⟩ = some (.iface 200 (.agg #[.pointer (some ⟨1, 72, none⟩)])) := by
  rw [World.cell?_alloc_lt _ _ ⟨0, 0, none⟩ (by simp), World.cell?_alloc_lt _ _ ⟨0, 0, none⟩ hlt]; exact hg
 have htl : t.block < w.heap.size := by
  rcases Nat.lt_or_ge t.block w.heap.size with h | h
  ·exact h
  ·simp [World.cell?, Array.getElem?_eq_none h] at ht0
 have el := Tz.elemVP ⟨w.heap.size, 0, none⟩ t (((w.alloc (.cells #[.pointer (some t)] 119)).alloc (.cells #[.pointer (some ⟨1, 119, none⟩), .pointer (some ⟨w.heap.size, 0, none⟩), .int .u64 150] 167)).alloc (.cells #[.pointer (some ⟨1, 119, none⟩), .pointer (some ⟨w.heap.size, 0, none⟩), .int .u64 150] 167)) (by rw [World.cell?_alloc_lt _ _ ⟨w.heap.size, 0, none⟩ (by simp; omega)]; simp)
 have st := Tz.setR t ⟨w.heap.size + 1 + 1 + 1, 0, none⟩ e old ((((w.alloc (.cells #[.pointer (some t)] 119)).alloc (.cells #[.pointer (some ⟨1, 119, none⟩), .pointer (some ⟨w.heap.size, 0, none⟩), .int .u64 150] 167)).alloc (.cells #[.pointer (some ⟨1, 119, none⟩), .pointer (some ⟨w.heap.size, 0, none⟩), .int .u64 150] 167)).alloc (.cells #[.int .i64 e] 113))
  (by rw [World.cell?_alloc_at _ _ _ _ (by simp)]; rfl) rfl
  (by rw [World.cell?_alloc_lt _ _ t (by simp; omega), World.cell?_alloc_lt _ _ t (by simp; omega), World.cell?_alloc_lt _ _ t (by simp; omega), World.cell?_alloc_lt _ _ t htl]; exact ht0)
  (by rw [World.frozen?_alloc_old _ _ t (by simp; omega), World.frozen?_alloc_old _ _ t (by simp; omega), World.frozen?_alloc_old _ _ t (by simp; omega), World.frozen?_alloc_old _ _ t (Nat.ne_of_lt htl)]; exact hf0)
 go_enter Tryz.func70, Tryz.ntmps70
 go_wp2
 refine wp_loop_rounds 1 ?_
 rw [rounds_succ]
 go_wp2
 go_ret
 exact ⟨rfl, rfl⟩
end Go.Proofs.YtkcilagjhieapaaGreatDoor
end
section
set_option linter.unusedVariables false
set_option linter.unusedSimpArgs false
namespace Go.Proofs.YtkcilagjhieapaaGreatDoor
open Go Go.RowKit Go.Extern.Stop Go.Stop Go.Extern
theorem as_hit' (e : Int) (w : World) (hg : w.cell? ⟨0, 0, none⟩ = some (.iface 200 (.agg #[.pointer (some ⟨1, 72, none⟩)]))) (v0 : Value) :
  Calls Tryz.prog 70 #[.iface 113 (.agg #[.int .i64 e]), .iface 119 (.pointer (some ⟨w.heap.size, 0, none⟩))] (w.alloc (.cells #[v0] 113)) fun ev w' => ev = .returned (.bool true) ∧ w'.cell? ⟨w.heap.size, 0, none⟩ = some (.int .i64 e) ∧ Below w.heap.size w w' := by
 have hlt : 0 < w.heap.size := by
  rcases Nat.eq_zero_or_pos w.heap.size with h0 | h
  ·simp [World.cell?, h0] at hg
  ·exact h
 refine (as_hit e ⟨w.heap.size, 0, none⟩ v0 (w.alloc (.cells #[v0] 113)) (by rw [World.cell?_alloc_lt _ _ ⟨0, 0, none⟩ hlt]; exact hg) (by simp) (by simp)).mono ?_
 rintro ev w' ⟨rfl, rfl⟩
 refine ⟨rfl, ?_, ?_⟩
 ·unfold hitW
  refine World.cell?_setCell_same (u := v0) _ _ _ ?_
  rw [World.cell?_alloc_lt _ _ ⟨w.heap.size, 0, none⟩ (by simp; omega), World.cell?_alloc_lt _ _ ⟨w.heap.size, 0, none⟩ (by simp; omega), World.cell?_alloc_lt _ _ ⟨w.heap.size, 0, none⟩ (by simp; omega), World.cell?_alloc_lt _ _ ⟨w.heap.size, 0, none⟩ (by simp)]
  simp
 ·unfold hitW
  exact (((((((Below.refl _ w).alloc (Nat.le_refl _) _).alloc (by simp) _).alloc (by simp; omega) _).alloc (by simp; omega) _).alloc (by simp; omega) _)).setCell (by simp) _
theorem why_nil (w : World) : Calls Tryz.prog 29 #[.nilIface] w fun e w' => e = .returned (.int .i64 0) ∧ Below w.heap.size w w' := by
 go_enter Tryz.func29, Tryz.ntmps29
 go_wp2_with (first | (go_at_call 70; refine (as_nil _ _).mono ?_; rintro e w' ⟨rfl, rfl⟩))
 go_ret
 exact ⟨rfl, (Below.refl _ w).alloc (Nat.le_refl _) _⟩
theorem why_hit (n : Int) (w : World) (hg : w.cell? ⟨0, 0, none⟩ = some (.iface 200 (.agg #[.pointer (some ⟨1, 72, none⟩)]))) : Calls Tryz.prog 29 #[.iface 113 (.agg #[.int .i64 n])] w fun e w' => e = .returned (.int .i64 n) ∧ Below w.heap.size w w' := by
 go_enter Tryz.func29, Tryz.ntmps29
 go_wp2_with (first | (go_at_call 70; refine (as_hit' n w hg _).mono ?_; rintro e w' ⟨rfl, hc, hb⟩))
 go_ret
 exact ⟨rfl, hb⟩
end Go.Proofs.YtkcilagjhieapaaGreatDoor
namespace Go.Av.G
open Go Go.Av Go.Proofs
theorem why_contract {e : Option Int} {r : Int} (h : r = e.getD 0) : Contract Tryz.prog 29 [.pv (eErr 113 e)] [] ⟨.pv (.int .i64 r), [], []⟩ := by
 subst h
 refine ⟨⟨Tryz.f29, Tryz.func29, by kernel_rfl, by kernel_rfl⟩, fun w vs γ ok h1 hG h2 h3 h4 h5 => ?_⟩
 match vs, h4 with
 | [v], _ =>
  have hv := slies_pv (h5 0 _ _ rfl rfl)
  cases e with
  | none =>
   obtain rfl : v = .nilIface := by cases hv; rfl
   refine (Go.Proofs.YtkcilagjhieapaaGreatDoor.why_nil w).mono ?_
   rintro e w' ⟨rfl, hb⟩
   exact ⟨_, fun _ => ⟨none, 0⟩, rfl, after_of_below hb (.pv _ _ (.int _ _))⟩
  | some n =>
   obtain rfl : v = .iface 113 (.agg #[.int .i64 n]) := by
    cases hv with
    | iface _ _ u hu =>
     cases hu with
     | agg _ us hl _ hj =>
      match us, hl, hj with
      | [u], _, hj =>
       have := lies_int (hj 0 _ _ rfl rfl)
       subst this; rfl
   refine (Go.Proofs.YtkcilagjhieapaaGreatDoor.why_hit n w hG.2).mono ?_
   rintro e w' ⟨rfl, hb⟩
   exact ⟨_, fun _ => ⟨none, 0⟩, rfl, after_of_below hb (.pv _ _ (.int _ _))⟩
end Go.Av.G
end
section
set_option linter.unusedVariables false
set_option linter.unusedSimpArgs false
set_option maxRecDepth 100000
set_option maxHeartbeats 8000000
namespace Go.Av.G
open Go Go.Av Go.Proofs
structure T_api_Customer where
 f_ID : Int
 f_Name : List UInt8
 f_Kind : Int
 deriving DecidableEq, Inhabited
def T_api_Customer.pv (x : T_api_Customer) : PV := .agg [.int .i64 x.f_ID, .str x.f_Name, .int .i64 x.f_Kind]
theorem T_api_Customer.pv_inj (x y : T_api_Customer) : x.pv = y.pv ↔ x = y := by
 constructor
 ·intro h; rcases x with ⟨_, _, _⟩; rcases y with ⟨_, _, _⟩; simp [T_api_Customer.pv, eInt_maps, eBool_maps, eStr_maps] at h; simp [h]
 ·rintro rfl; rfl
theorem T_api_Customer.pv_maps (l m : List T_api_Customer) : l.map T_api_Customer.pv = m.map T_api_Customer.pv ↔ l = m := List.map_inj_right (fun x y h => (T_api_Customer.pv_inj x y).1 h)
def T_api_Customer.same (x y : T_api_Customer) : Bool := ((x.f_ID == y.f_ID) && ((x.f_Name == y.f_Name) && ((x.f_Kind == y.f_Kind) && true)))
def T_api_Customer.tt : TT := .struct (.field (.int .i64) (.field .str (.field (.int .i64) .unit)))
def T_api_Customer.wf (x : T_api_Customer) : Prop := inR .i64 x.f_ID ∧ x.f_Name.length ≤ maxLen ∧ inR .i64 x.f_Kind
theorem T_api_Customer.of {xs : List PV} (hh : T_api_Customer.tt.Of xs) : ∃ x : T_api_Customer, x.wf ∧ T_api_Customer.tt.pack xs = T_api_Customer.pv x := by
 obtain ⟨a0, b0, rfl, h0, hh⟩ := hh
 obtain ⟨a1, b1, rfl, h1, hh⟩ := hh
 obtain ⟨a2, b2, rfl, h2, hh⟩ := hh
 obtain rfl : _ = [] := hh
 obtain ⟨n0, rfl, w0⟩ := h0
 obtain ⟨n1, rfl, w1⟩ := h1
 obtain ⟨n2, rfl, w2⟩ := h2
 exact ⟨⟨n0, n1, n2⟩, ⟨w0, w1, w2⟩, rfl⟩
structure T_api_Record where
 f_Acc : Int
 f_Kind : Int
 f_Cur : Int
 f_Customer : Int
 f_Product : Int
 f_Partition : Int
 f_From : Int
 f_To : Int
 deriving DecidableEq, Inhabited
def T_api_Record.pv (x : T_api_Record) : PV := .agg [.int .i64 x.f_Acc, .int .i64 x.f_Kind, .int .i64 x.f_Cur, .int .i64 x.f_Customer, .int .i64 x.f_Product, .int .i64 x.f_Partition, .int .i32 x.f_From, .int .i32 x.f_To]
theorem T_api_Record.pv_inj (x y : T_api_Record) : x.pv = y.pv ↔ x = y := by
 constructor
 ·intro h; rcases x with ⟨_, _, _, _, _, _, _, _⟩; rcases y with ⟨_, _, _, _, _, _, _, _⟩; simp [T_api_Record.pv, eInt_maps, eBool_maps, eStr_maps, T_api_Customer.pv_maps] at h; simp [h]
 ·rintro rfl; rfl
theorem T_api_Record.pv_maps (l m : List T_api_Record) : l.map T_api_Record.pv = m.map T_api_Record.pv ↔ l = m := List.map_inj_right (fun x y h => (T_api_Record.pv_inj x y).1 h)
def T_api_Record.same (x y : T_api_Record) : Bool := ((x.f_Acc == y.f_Acc) && ((x.f_Kind == y.f_Kind) && ((x.f_Cur == y.f_Cur) && ((x.f_Customer == y.f_Customer) && ((x.f_Product == y.f_Product) && ((x.f_Partition == y.f_Partition) && ((x.f_From == y.f_From) && ((x.f_To == y.f_To) && true))))))))
def T_api_Record.tt : TT := .struct (.field (.int .i64) (.field (.int .i64) (.field (.int .i64) (.field (.int .i64) (.field (.int .i64) (.field (.int .i64) (.field (.int .i32) (.field (.int .i32) .unit))))))))
def T_api_Record.wf (x : T_api_Record) : Prop := inR .i64 x.f_Acc ∧ inR .i64 x.f_Kind ∧ inR .i64 x.f_Cur ∧ inR .i64 x.f_Customer ∧ inR .i64 x.f_Product ∧ inR .i64 x.f_Partition ∧ inR .i32 x.f_From ∧ inR .i32 x.f_To
theorem T_api_Record.of {xs : List PV} (hh : T_api_Record.tt.Of xs) : ∃ x : T_api_Record, x.wf ∧ T_api_Record.tt.pack xs = T_api_Record.pv x := by
 obtain ⟨a0, b0, rfl, h0, hh⟩ := hh
 obtain ⟨a1, b1, rfl, h1, hh⟩ := hh
 obtain ⟨a2, b2, rfl, h2, hh⟩ := hh
 obtain ⟨a3, b3, rfl, h3, hh⟩ := hh
 obtain ⟨a4, b4, rfl, h4, hh⟩ := hh
 obtain ⟨a5, b5, rfl, h5, hh⟩ := hh
 obtain ⟨a6, b6, rfl, h6, hh⟩ := hh
 obtain ⟨a7, b7, rfl, h7, hh⟩ := hh
 obtain rfl : _ = [] := hh
 obtain ⟨n0, rfl, w0⟩ := h0
 obtain ⟨n1, rfl, w1⟩ := h1
 obtain ⟨n2, rfl, w2⟩ := h2
 obtain ⟨n3, rfl, w3⟩ := h3
 obtain ⟨n4, rfl, w4⟩ := h4
 obtain ⟨n5, rfl, w5⟩ := h5
 obtain ⟨n6, rfl, w6⟩ := h6
 obtain ⟨n7, rfl, w7⟩ := h7
 exact ⟨⟨n0, n1, n2, n3, n4, n5, n6, n7⟩, ⟨w0, w1, w2, w3, w4, w5, w6, w7⟩, rfl⟩
structure T_api_Chart where
 f_Customers : List T_api_Customer
 f_Records : List T_api_Record
 deriving DecidableEq, Inhabited
def T_api_Chart.pv (x : T_api_Chart) : PV := .agg [.slice (List.map T_api_Customer.pv x.f_Customers), .slice (List.map T_api_Record.pv x.f_Records)]
theorem T_api_Chart.pv_inj (x y : T_api_Chart) : x.pv = y.pv ↔ x = y := by
 constructor
 ·intro h; rcases x with ⟨_, _⟩; rcases y with ⟨_, _⟩; simp [T_api_Chart.pv, eInt_maps, eBool_maps, eStr_maps, T_api_Customer.pv_maps, T_api_Record.pv_maps] at h; simp [h]
 ·rintro rfl; rfl
theorem T_api_Chart.pv_maps (l m : List T_api_Chart) : l.map T_api_Chart.pv = m.map T_api_Chart.pv ↔ l = m := List.map_inj_right (fun x y h => (T_api_Chart.pv_inj x y).1 h)
def T_api_Chart.tt : TT := .struct (.field (.slice T_api_Customer.tt) (.field (.slice T_api_Record.tt) .unit))
def T_api_Chart.wf (x : T_api_Chart) : Prop := (x.f_Customers.length ≤ maxLen ∧ ∀ x' ∈ x.f_Customers, T_api_Customer.wf x') ∧ (x.f_Records.length ≤ maxLen ∧ ∀ x' ∈ x.f_Records, T_api_Record.wf x')
theorem T_api_Chart.of {xs : List PV} (hh : T_api_Chart.tt.Of xs) : ∃ x : T_api_Chart, x.wf ∧ T_api_Chart.tt.pack xs = T_api_Chart.pv x := by
 obtain ⟨a0, b0, rfl, h0, hh⟩ := hh
 obtain ⟨a1, b1, rfl, h1, hh⟩ := hh
 obtain rfl : _ = [] := hh
 obtain ⟨n0, w0, rfl⟩ := of_slice (f := T_api_Customer.pv) (wf := T_api_Customer.wf) (fun xs h => T_api_Customer.of h) h0
 obtain ⟨n1, w1, rfl⟩ := of_slice (f := T_api_Record.pv) (wf := T_api_Record.wf) (fun xs h => T_api_Record.of h) h1
 exact ⟨⟨n0, n1⟩, ⟨w0, w1⟩, rfl⟩
structure T_api_Money where
 f_Cur : Int
 f_Minor : Int
 deriving DecidableEq, Inhabited
def T_api_Money.pv (x : T_api_Money) : PV := .agg [.int .i64 x.f_Cur, .int .i64 x.f_Minor]
theorem T_api_Money.pv_inj (x y : T_api_Money) : x.pv = y.pv ↔ x = y := by
 constructor
 ·intro h; rcases x with ⟨_, _⟩; rcases y with ⟨_, _⟩; simp [T_api_Money.pv, eInt_maps, eBool_maps, eStr_maps, T_api_Customer.pv_maps, T_api_Record.pv_maps, T_api_Chart.pv_maps] at h; simp [h]
 ·rintro rfl; rfl
theorem T_api_Money.pv_maps (l m : List T_api_Money) : l.map T_api_Money.pv = m.map T_api_Money.pv ↔ l = m := List.map_inj_right (fun x y h => (T_api_Money.pv_inj x y).1 h)
def T_api_Money.same (x y : T_api_Money) : Bool := ((x.f_Cur == y.f_Cur) && ((x.f_Minor == y.f_Minor) && true))
def T_api_Money.tt : TT := .struct (.field (.int .i64) (.field (.int .i64) .unit))
def T_api_Money.wf (x : T_api_Money) : Prop := inR .i64 x.f_Cur ∧ inR .i64 x.f_Minor
theorem T_api_Money.of {xs : List PV} (hh : T_api_Money.tt.Of xs) : ∃ x : T_api_Money, x.wf ∧ T_api_Money.tt.pack xs = T_api_Money.pv x := by
 obtain ⟨a0, b0, rfl, h0, hh⟩ := hh
 obtain ⟨a1, b1, rfl, h1, hh⟩ := hh
 obtain rfl : _ = [] := hh
 obtain ⟨n0, rfl, w0⟩ := h0
 obtain ⟨n1, rfl, w1⟩ := h1
 exact ⟨⟨n0, n1⟩, ⟨w0, w1⟩, rfl⟩
structure T_api_Leg where
 f_Acc : Int
 f_Amount : T_api_Money
 deriving DecidableEq, Inhabited
def T_api_Leg.pv (x : T_api_Leg) : PV := .agg [.int .i64 x.f_Acc, .int .i64 x.f_Amount.f_Cur, .int .i64 x.f_Amount.f_Minor]
theorem T_api_Leg.pv_inj (x y : T_api_Leg) : x.pv = y.pv ↔ x = y := by
 constructor
 ·intro h; rcases x with ⟨_, ⟨_, _⟩⟩; rcases y with ⟨_, ⟨_, _⟩⟩; simp [T_api_Leg.pv, eInt_maps, eBool_maps, eStr_maps, T_api_Customer.pv_maps, T_api_Record.pv_maps, T_api_Chart.pv_maps, T_api_Money.pv_maps] at h; simp [h]
 ·rintro rfl; rfl
theorem T_api_Leg.pv_maps (l m : List T_api_Leg) : l.map T_api_Leg.pv = m.map T_api_Leg.pv ↔ l = m := List.map_inj_right (fun x y h => (T_api_Leg.pv_inj x y).1 h)
def T_api_Leg.same (x y : T_api_Leg) : Bool := ((x.f_Acc == y.f_Acc) && ((x.f_Amount.f_Cur == y.f_Amount.f_Cur) && ((x.f_Amount.f_Minor == y.f_Amount.f_Minor) && true)))
def T_api_Leg.tt : TT := .struct (.field (.int .i64) (.field T_api_Money.tt .unit))
def T_api_Leg.wf (x : T_api_Leg) : Prop := inR .i64 x.f_Acc ∧ T_api_Money.wf x.f_Amount
theorem T_api_Leg.of {xs : List PV} (hh : T_api_Leg.tt.Of xs) : ∃ x : T_api_Leg, x.wf ∧ T_api_Leg.tt.pack xs = T_api_Leg.pv x := by
 obtain ⟨a0, b0, rfl, h0, hh⟩ := hh
 obtain ⟨a1, b1, rfl, h1, hh⟩ := hh
 obtain rfl : _ = [] := hh
 obtain ⟨n0, rfl, w0⟩ := h0
 obtain ⟨n1, w1, e1⟩ := T_api_Money.of h1
 obtain rfl := PV.agg.inj e1
 exact ⟨⟨n0, n1⟩, ⟨w0, w1⟩, rfl⟩
structure T_api_Posting where
 f_ID : Int
 f_Known : Int
 f_Value : Int
 f_Legs : List T_api_Leg
 f_Reverses : Int
 f_Kind : Int
 f_Memo : List UInt8
 deriving DecidableEq, Inhabited
def T_api_Posting.pv (x : T_api_Posting) : PV := .agg [.int .i64 x.f_ID, .int .i32 x.f_Known, .int .i32 x.f_Value, .slice (List.map T_api_Leg.pv x.f_Legs), .int .i64 x.f_Reverses, .int .i64 x.f_Kind, .str x.f_Memo]
theorem T_api_Posting.pv_inj (x y : T_api_Posting) : x.pv = y.pv ↔ x = y := by
 constructor
 ·intro h; rcases x with ⟨_, _, _, _, _, _, _⟩; rcases y with ⟨_, _, _, _, _, _, _⟩; simp [T_api_Posting.pv, eInt_maps, eBool_maps, eStr_maps, T_api_Customer.pv_maps, T_api_Record.pv_maps, T_api_Chart.pv_maps, T_api_Money.pv_maps, T_api_Leg.pv_maps] at h; simp [h]
 ·rintro rfl; rfl
theorem T_api_Posting.pv_maps (l m : List T_api_Posting) : l.map T_api_Posting.pv = m.map T_api_Posting.pv ↔ l = m := List.map_inj_right (fun x y h => (T_api_Posting.pv_inj x y).1 h)
def T_api_Posting.tt : TT := .struct (.field (.int .i64) (.field (.int .i32) (.field (.int .i32) (.field (.slice T_api_Leg.tt) (.field (.int .i64) (.field (.int .i64) (.field .str .unit)))))))
def T_api_Posting.wf (x : T_api_Posting) : Prop := inR .i64 x.f_ID ∧ inR .i32 x.f_Known ∧ inR .i32 x.f_Value ∧ (x.f_Legs.length ≤ maxLen ∧ ∀ x' ∈ x.f_Legs, T_api_Leg.wf x') ∧ inR .i64 x.f_Reverses ∧ inR .i64 x.f_Kind ∧ x.f_Memo.length ≤ maxLen
theorem T_api_Posting.of {xs : List PV} (hh : T_api_Posting.tt.Of xs) : ∃ x : T_api_Posting, x.wf ∧ T_api_Posting.tt.pack xs = T_api_Posting.pv x := by
 obtain ⟨a0, b0, rfl, h0, hh⟩ := hh
 obtain ⟨a1, b1, rfl, h1, hh⟩ := hh
 obtain ⟨a2, b2, rfl, h2, hh⟩ := hh
 obtain ⟨a3, b3, rfl, h3, hh⟩ := hh
 obtain ⟨a4, b4, rfl, h4, hh⟩ := hh
 obtain ⟨a5, b5, rfl, h5, hh⟩ := hh
 obtain ⟨a6, b6, rfl, h6, hh⟩ := hh
 obtain rfl : _ = [] := hh
 obtain ⟨n0, rfl, w0⟩ := h0
 obtain ⟨n1, rfl, w1⟩ := h1
 obtain ⟨n2, rfl, w2⟩ := h2
 obtain ⟨n3, w3, rfl⟩ := of_slice (f := T_api_Leg.pv) (wf := T_api_Leg.wf) (fun xs h => T_api_Leg.of h) h3
 obtain ⟨n4, rfl, w4⟩ := h4
 obtain ⟨n5, rfl, w5⟩ := h5
 obtain ⟨n6, rfl, w6⟩ := h6
 exact ⟨⟨n0, n1, n2, n3, n4, n5, n6⟩, ⟨w0, w1, w2, w3, w4, w5, w6⟩, rfl⟩
structure T_api_Hold where
 f_ID : Int
 f_Acc : Int
 f_Amount : T_api_Money
 f_Rank : Int
 f_Made : Int
 f_Until : Int
 f_Taken : Int
 f_Done : Bool
 deriving DecidableEq, Inhabited
def T_api_Hold.pv (x : T_api_Hold) : PV := .agg [.int .i64 x.f_ID, .int .i64 x.f_Acc, .int .i64 x.f_Amount.f_Cur, .int .i64 x.f_Amount.f_Minor, .int .i64 x.f_Rank, .int .i32 x.f_Made, .int .i32 x.f_Until, .int .i64 x.f_Taken, .bool x.f_Done]
theorem T_api_Hold.pv_inj (x y : T_api_Hold) : x.pv = y.pv ↔ x = y := by
 constructor
 ·intro h; rcases x with ⟨_, _, ⟨_, _⟩, _, _, _, _, _⟩; rcases y with ⟨_, _, ⟨_, _⟩, _, _, _, _, _⟩; simp [T_api_Hold.pv, eInt_maps, eBool_maps, eStr_maps, T_api_Customer.pv_maps, T_api_Record.pv_maps, T_api_Chart.pv_maps, T_api_Money.pv_maps, T_api_Leg.pv_maps, T_api_Posting.pv_maps] at h; simp [h]
 ·rintro rfl; rfl
theorem T_api_Hold.pv_maps (l m : List T_api_Hold) : l.map T_api_Hold.pv = m.map T_api_Hold.pv ↔ l = m := List.map_inj_right (fun x y h => (T_api_Hold.pv_inj x y).1 h)
def T_api_Hold.same (x y : T_api_Hold) : Bool := ((x.f_ID == y.f_ID) && ((x.f_Acc == y.f_Acc) && ((x.f_Amount.f_Cur == y.f_Amount.f_Cur) && ((x.f_Amount.f_Minor == y.f_Amount.f_Minor) && ((x.f_Rank == y.f_Rank) && ((x.f_Made == y.f_Made) && ((x.f_Until == y.f_Until) && ((x.f_Taken == y.f_Taken) && ((x.f_Done == y.f_Done) && true)))))))))
def T_api_Hold.tt : TT := .struct (.field (.int .i64) (.field (.int .i64) (.field T_api_Money.tt (.field (.int .i64) (.field (.int .i32) (.field (.int .i32) (.field (.int .i64) (.field .bool .unit))))))))
def T_api_Hold.wf (x : T_api_Hold) : Prop := inR .i64 x.f_ID ∧ inR .i64 x.f_Acc ∧ T_api_Money.wf x.f_Amount ∧ inR .i64 x.f_Rank ∧ inR .i32 x.f_Made ∧ inR .i32 x.f_Until ∧ inR .i64 x.f_Taken ∧ True
theorem T_api_Hold.of {xs : List PV} (hh : T_api_Hold.tt.Of xs) : ∃ x : T_api_Hold, x.wf ∧ T_api_Hold.tt.pack xs = T_api_Hold.pv x := by
 obtain ⟨a0, b0, rfl, h0, hh⟩ := hh
 obtain ⟨a1, b1, rfl, h1, hh⟩ := hh
 obtain ⟨a2, b2, rfl, h2, hh⟩ := hh
 obtain ⟨a3, b3, rfl, h3, hh⟩ := hh
 obtain ⟨a4, b4, rfl, h4, hh⟩ := hh
 obtain ⟨a5, b5, rfl, h5, hh⟩ := hh
 obtain ⟨a6, b6, rfl, h6, hh⟩ := hh
 obtain ⟨a7, b7, rfl, h7, hh⟩ := hh
 obtain rfl : _ = [] := hh
 obtain ⟨n0, rfl, w0⟩ := h0
 obtain ⟨n1, rfl, w1⟩ := h1
 obtain ⟨n2, w2, e2⟩ := T_api_Money.of h2
 obtain rfl := PV.agg.inj e2
 obtain ⟨n3, rfl, w3⟩ := h3
 obtain ⟨n4, rfl, w4⟩ := h4
 obtain ⟨n5, rfl, w5⟩ := h5
 obtain ⟨n6, rfl, w6⟩ := h6
 obtain ⟨n7, rfl⟩ := h7
 exact ⟨⟨n0, n1, n2, n3, n4, n5, n6, n7⟩, ⟨w0, w1, w2, w3, w4, w5, w6, trivial⟩, rfl⟩
structure T_api_Limit where
 f_Acc : Int
 f_Minor : Int
 deriving DecidableEq, Inhabited
def T_api_Limit.pv (x : T_api_Limit) : PV := .agg [.int .i64 x.f_Acc, .int .i64 x.f_Minor]
theorem T_api_Limit.pv_inj (x y : T_api_Limit) : x.pv = y.pv ↔ x = y := by
 constructor
 ·intro h; rcases x with ⟨_, _⟩; rcases y with ⟨_, _⟩; simp [T_api_Limit.pv, eInt_maps, eBool_maps, eStr_maps, T_api_Customer.pv_maps, T_api_Record.pv_maps, T_api_Chart.pv_maps, T_api_Money.pv_maps, T_api_Leg.pv_maps, T_api_Posting.pv_maps, T_api_Hold.pv_maps] at h; simp [h]
 ·rintro rfl; rfl
theorem T_api_Limit.pv_maps (l m : List T_api_Limit) : l.map T_api_Limit.pv = m.map T_api_Limit.pv ↔ l = m := List.map_inj_right (fun x y h => (T_api_Limit.pv_inj x y).1 h)
def T_api_Limit.same (x y : T_api_Limit) : Bool := ((x.f_Acc == y.f_Acc) && ((x.f_Minor == y.f_Minor) && true))
def T_api_Limit.tt : TT := .struct (.field (.int .i64) (.field (.int .i64) .unit))
def T_api_Limit.wf (x : T_api_Limit) : Prop := inR .i64 x.f_Acc ∧ inR .i64 x.f_Minor
theorem T_api_Limit.of {xs : List PV} (hh : T_api_Limit.tt.Of xs) : ∃ x : T_api_Limit, x.wf ∧ T_api_Limit.tt.pack xs = T_api_Limit.pv x := by
 obtain ⟨a0, b0, rfl, h0, hh⟩ := hh
 obtain ⟨a1, b1, rfl, h1, hh⟩ := hh
 obtain rfl : _ = [] := hh
 obtain ⟨n0, rfl, w0⟩ := h0
 obtain ⟨n1, rfl, w1⟩ := h1
 exact ⟨⟨n0, n1⟩, ⟨w0, w1⟩, rfl⟩
structure T_api_Till where
 f_Chart : T_api_Chart
 f_L : List T_api_Posting
 f_Holds : List T_api_Hold
 f_Limits : List T_api_Limit
 deriving DecidableEq, Inhabited
def T_api_Till.pv (x : T_api_Till) : PV := .agg [.slice (List.map T_api_Customer.pv x.f_Chart.f_Customers), .slice (List.map T_api_Record.pv x.f_Chart.f_Records), .slice (List.map T_api_Posting.pv x.f_L), .slice (List.map T_api_Hold.pv x.f_Holds), .slice (List.map T_api_Limit.pv x.f_Limits)]
theorem T_api_Till.pv_inj (x y : T_api_Till) : x.pv = y.pv ↔ x = y := by
 constructor
 ·intro h; rcases x with ⟨⟨_, _⟩, _, _, _⟩; rcases y with ⟨⟨_, _⟩, _, _, _⟩; simp [T_api_Till.pv, eInt_maps, eBool_maps, eStr_maps, T_api_Customer.pv_maps, T_api_Record.pv_maps, T_api_Chart.pv_maps, T_api_Money.pv_maps, T_api_Leg.pv_maps, T_api_Posting.pv_maps, T_api_Hold.pv_maps, T_api_Limit.pv_maps] at h; simp [h]
 ·rintro rfl; rfl
theorem T_api_Till.pv_maps (l m : List T_api_Till) : l.map T_api_Till.pv = m.map T_api_Till.pv ↔ l = m := List.map_inj_right (fun x y h => (T_api_Till.pv_inj x y).1 h)
def T_api_Till.tt : TT := .struct (.field T_api_Chart.tt (.field (.slice T_api_Posting.tt) (.field (.slice T_api_Hold.tt) (.field (.slice T_api_Limit.tt) .unit))))
def T_api_Till.wf (x : T_api_Till) : Prop := T_api_Chart.wf x.f_Chart ∧ (x.f_L.length ≤ maxLen ∧ ∀ x' ∈ x.f_L, T_api_Posting.wf x') ∧ (x.f_Holds.length ≤ maxLen ∧ ∀ x' ∈ x.f_Holds, T_api_Hold.wf x') ∧ (x.f_Limits.length ≤ maxLen ∧ ∀ x' ∈ x.f_Limits, T_api_Limit.wf x')
theorem T_api_Till.of {xs : List PV} (hh : T_api_Till.tt.Of xs) : ∃ x : T_api_Till, x.wf ∧ T_api_Till.tt.pack xs = T_api_Till.pv x := by
 obtain ⟨a0, b0, rfl, h0, hh⟩ := hh
 obtain ⟨a1, b1, rfl, h1, hh⟩ := hh
 obtain ⟨a2, b2, rfl, h2, hh⟩ := hh
 obtain ⟨a3, b3, rfl, h3, hh⟩ := hh
 obtain rfl : _ = [] := hh
 obtain ⟨n0, w0, e0⟩ := T_api_Chart.of h0
 obtain rfl := PV.agg.inj e0
 obtain ⟨n1, w1, rfl⟩ := of_slice (f := T_api_Posting.pv) (wf := T_api_Posting.wf) (fun xs h => T_api_Posting.of h) h1
 obtain ⟨n2, w2, rfl⟩ := of_slice (f := T_api_Hold.pv) (wf := T_api_Hold.wf) (fun xs h => T_api_Hold.of h) h2
 obtain ⟨n3, w3, rfl⟩ := of_slice (f := T_api_Limit.pv) (wf := T_api_Limit.wf) (fun xs h => T_api_Limit.of h) h3
 exact ⟨⟨n0, n1, n2, n3⟩, ⟨w0, w1, w2, w3⟩, rfl⟩
structure T_balance_great where
 f_sum : Int
 deriving DecidableEq, Inhabited
def T_balance_great.pv (x : T_balance_great) : PV := .agg [.int .i64 x.f_sum]
theorem T_balance_great.pv_inj (x y : T_balance_great) : x.pv = y.pv ↔ x = y := by
 constructor
 ·intro h; rcases x with ⟨_⟩; rcases y with ⟨_⟩; simp [T_balance_great.pv, eInt_maps, eBool_maps, eStr_maps, T_api_Customer.pv_maps, T_api_Record.pv_maps, T_api_Chart.pv_maps, T_api_Money.pv_maps, T_api_Leg.pv_maps, T_api_Posting.pv_maps, T_api_Hold.pv_maps, T_api_Limit.pv_maps, T_api_Till.pv_maps] at h; simp [h]
 ·rintro rfl; rfl
theorem T_balance_great.pv_maps (l m : List T_balance_great) : l.map T_balance_great.pv = m.map T_balance_great.pv ↔ l = m := List.map_inj_right (fun x y h => (T_balance_great.pv_inj x y).1 h)
def T_balance_great.same (x y : T_balance_great) : Bool := ((x.f_sum == y.f_sum) && true)
def T_balance_great.tt : TT := .struct (.field (.int .i64) .unit)
def T_balance_great.wf (x : T_balance_great) : Prop := inR .i64 x.f_sum
theorem T_balance_great.of {xs : List PV} (hh : T_balance_great.tt.Of xs) : ∃ x : T_balance_great, x.wf ∧ T_balance_great.tt.pack xs = T_balance_great.pv x := by
 obtain ⟨a0, b0, rfl, h0, hh⟩ := hh
 obtain rfl : _ = [] := hh
 obtain ⟨n0, rfl, w0⟩ := h0
 exact ⟨⟨n0⟩, w0, rfl⟩
structure T_balance_leg where
 f_known : Int
 f_value : Int
 f_minor : Int
 deriving DecidableEq, Inhabited
def T_balance_leg.pv (x : T_balance_leg) : PV := .agg [.int .i32 x.f_known, .int .i32 x.f_value, .int .i64 x.f_minor]
theorem T_balance_leg.pv_inj (x y : T_balance_leg) : x.pv = y.pv ↔ x = y := by
 constructor
 ·intro h; rcases x with ⟨_, _, _⟩; rcases y with ⟨_, _, _⟩; simp [T_balance_leg.pv, eInt_maps, eBool_maps, eStr_maps, T_api_Customer.pv_maps, T_api_Record.pv_maps, T_api_Chart.pv_maps, T_api_Money.pv_maps, T_api_Leg.pv_maps, T_api_Posting.pv_maps, T_api_Hold.pv_maps, T_api_Limit.pv_maps, T_api_Till.pv_maps, T_balance_great.pv_maps] at h; simp [h]
 ·rintro rfl; rfl
theorem T_balance_leg.pv_maps (l m : List T_balance_leg) : l.map T_balance_leg.pv = m.map T_balance_leg.pv ↔ l = m := List.map_inj_right (fun x y h => (T_balance_leg.pv_inj x y).1 h)
def T_balance_leg.same (x y : T_balance_leg) : Bool := ((x.f_known == y.f_known) && ((x.f_value == y.f_value) && ((x.f_minor == y.f_minor) && true)))
def T_balance_leg.tt : TT := .struct (.field (.int .i32) (.field (.int .i32) (.field (.int .i64) .unit)))
def T_balance_leg.wf (x : T_balance_leg) : Prop := inR .i32 x.f_known ∧ inR .i32 x.f_value ∧ inR .i64 x.f_minor
theorem T_balance_leg.of {xs : List PV} (hh : T_balance_leg.tt.Of xs) : ∃ x : T_balance_leg, x.wf ∧ T_balance_leg.tt.pack xs = T_balance_leg.pv x := by
 obtain ⟨a0, b0, rfl, h0, hh⟩ := hh
 obtain ⟨a1, b1, rfl, h1, hh⟩ := hh
 obtain ⟨a2, b2, rfl, h2, hh⟩ := hh
 obtain rfl : _ = [] := hh
 obtain ⟨n0, rfl, w0⟩ := h0
 obtain ⟨n1, rfl, w1⟩ := h1
 obtain ⟨n2, rfl, w2⟩ := h2
 exact ⟨⟨n0, n1, n2⟩, ⟨w0, w1, w2⟩, rfl⟩
structure T_avail_account where
 f_cur : Int
 f_funds : Int
 f_limit : Int
 deriving DecidableEq, Inhabited
def T_avail_account.pv (x : T_avail_account) : PV := .agg [.int .i64 x.f_cur, .int .i64 x.f_funds, .int .i64 x.f_limit]
theorem T_avail_account.pv_inj (x y : T_avail_account) : x.pv = y.pv ↔ x = y := by
 constructor
 ·intro h; rcases x with ⟨_, _, _⟩; rcases y with ⟨_, _, _⟩; simp [T_avail_account.pv, eInt_maps, eBool_maps, eStr_maps, T_api_Customer.pv_maps, T_api_Record.pv_maps, T_api_Chart.pv_maps, T_api_Money.pv_maps, T_api_Leg.pv_maps, T_api_Posting.pv_maps, T_api_Hold.pv_maps, T_api_Limit.pv_maps, T_api_Till.pv_maps, T_balance_great.pv_maps, T_balance_leg.pv_maps] at h; simp [h]
 ·rintro rfl; rfl
theorem T_avail_account.pv_maps (l m : List T_avail_account) : l.map T_avail_account.pv = m.map T_avail_account.pv ↔ l = m := List.map_inj_right (fun x y h => (T_avail_account.pv_inj x y).1 h)
def T_avail_account.same (x y : T_avail_account) : Bool := ((x.f_cur == y.f_cur) && ((x.f_funds == y.f_funds) && ((x.f_limit == y.f_limit) && true)))
def T_avail_account.tt : TT := .struct (.field (.int .i64) (.field (.int .i64) (.field (.int .i64) .unit)))
def T_avail_account.wf (x : T_avail_account) : Prop := inR .i64 x.f_cur ∧ inR .i64 x.f_funds ∧ inR .i64 x.f_limit
theorem T_avail_account.of {xs : List PV} (hh : T_avail_account.tt.Of xs) : ∃ x : T_avail_account, x.wf ∧ T_avail_account.tt.pack xs = T_avail_account.pv x := by
 obtain ⟨a0, b0, rfl, h0, hh⟩ := hh
 obtain ⟨a1, b1, rfl, h1, hh⟩ := hh
 obtain ⟨a2, b2, rfl, h2, hh⟩ := hh
 obtain rfl : _ = [] := hh
 obtain ⟨n0, rfl, w0⟩ := h0
 obtain ⟨n1, rfl, w1⟩ := h1
 obtain ⟨n2, rfl, w2⟩ := h2
 exact ⟨⟨n0, n1, n2⟩, ⟨w0, w1, w2⟩, rfl⟩
structure T_cashbookref21_L where
 f_Known : Int
 f_Value : Int
 f_Minor : Int
 deriving DecidableEq, Inhabited
def T_cashbookref21_L.pv (x : T_cashbookref21_L) : PV := .agg [.int .i32 x.f_Known, .int .i32 x.f_Value, .int .i64 x.f_Minor]
theorem T_cashbookref21_L.pv_inj (x y : T_cashbookref21_L) : x.pv = y.pv ↔ x = y := by
 constructor
 ·intro h; rcases x with ⟨_, _, _⟩; rcases y with ⟨_, _, _⟩; simp [T_cashbookref21_L.pv, eInt_maps, eBool_maps, eStr_maps, T_api_Customer.pv_maps, T_api_Record.pv_maps, T_api_Chart.pv_maps, T_api_Money.pv_maps, T_api_Leg.pv_maps, T_api_Posting.pv_maps, T_api_Hold.pv_maps, T_api_Limit.pv_maps, T_api_Till.pv_maps, T_balance_great.pv_maps, T_balance_leg.pv_maps, T_avail_account.pv_maps] at h; simp [h]
 ·rintro rfl; rfl
theorem T_cashbookref21_L.pv_maps (l m : List T_cashbookref21_L) : l.map T_cashbookref21_L.pv = m.map T_cashbookref21_L.pv ↔ l = m := List.map_inj_right (fun x y h => (T_cashbookref21_L.pv_inj x y).1 h)
def T_cashbookref21_L.same (x y : T_cashbookref21_L) : Bool := ((x.f_Known == y.f_Known) && ((x.f_Value == y.f_Value) && ((x.f_Minor == y.f_Minor) && true)))
def T_cashbookref21_L.tt : TT := .struct (.field (.int .i32) (.field (.int .i32) (.field (.int .i64) .unit)))
def T_cashbookref21_L.wf (x : T_cashbookref21_L) : Prop := inR .i32 x.f_Known ∧ inR .i32 x.f_Value ∧ inR .i64 x.f_Minor
theorem T_cashbookref21_L.of {xs : List PV} (hh : T_cashbookref21_L.tt.Of xs) : ∃ x : T_cashbookref21_L, x.wf ∧ T_cashbookref21_L.tt.pack xs = T_cashbookref21_L.pv x := by
 obtain ⟨a0, b0, rfl, h0, hh⟩ := hh
 obtain ⟨a1, b1, rfl, h1, hh⟩ := hh
 obtain ⟨a2, b2, rfl, h2, hh⟩ := hh
 obtain rfl : _ = [] := hh
 obtain ⟨n0, rfl, w0⟩ := h0
 obtain ⟨n1, rfl, w1⟩ := h1
 obtain ⟨n2, rfl, w2⟩ := h2
 exact ⟨⟨n0, n1, n2⟩, ⟨w0, w1, w2⟩, rfl⟩
noncomputable def cashbooklaw26_few (t1 : T_api_Till) : Option T_api_Till :=
 (slO t1.f_Chart.f_Customers 0 (if 20 < (t1.f_Chart.f_Customers.length : Int) then 20 else (t1.f_Chart.f_Customers.length : Int))).bind fun x2 =>
 (slO t1.f_Chart.f_Records 0 (if 30 < (t1.f_Chart.f_Records.length : Int) then 30 else (t1.f_Chart.f_Records.length : Int))).bind fun x3 =>
 ((if (decide ((t1.f_L.length : Int) ≤ 2000)) = true then
   (slO t1.f_L 0 (if 40 < (t1.f_L.length : Int) then 40 else (t1.f_L.length : Int))).bind fun x5 =>
   ((loopO (fun (qj6 : Int × (List T_api_Posting)) => match qj6 with
     | (x7, row8) => (
      if (decide (x7 < (x5.length : Int))) = true then
       (rdO x5 x7).bind fun x9 =>
       (slO x9.f_Legs 0 (if 6 < (x9.f_Legs.length : Int) then 6 else (x9.f_Legs.length : Int))).bind fun x10 =>
       (apO 72 row8 [(⟨x9.f_ID, x9.f_Known, x9.f_Value, x10, x9.f_Reverses, x9.f_Kind, x9.f_Memo⟩ : T_api_Posting)]).bind fun x11 =>
       some (.inl (IntKind.wrap .i64 (x7 + 1), x11))
      else
       some (.inr row8) : Option ((Int × (List T_api_Posting)) ⊕ (List T_api_Posting)))) (0, ([] : List T_api_Posting))) : Option (List T_api_Posting)).bind fun j6 =>
   some j6
 else
  some t1.f_L) : Option (List T_api_Posting)).bind fun j4 =>
 (slO t1.f_Holds 0 (if 40 < (t1.f_Holds.length : Int) then 40 else (t1.f_Holds.length : Int))).bind fun x14 =>
 (slO t1.f_Limits 0 (if 40 < (t1.f_Limits.length : Int) then 40 else (t1.f_Limits.length : Int))).bind fun x15 =>
 some (⟨(⟨x2, x3⟩ : T_api_Chart), j4, x14, x15⟩ : T_api_Till)
def avail_in_Account (n1 : Int) (low2 : Int) (high3 : Int) : Option Bool :=
 (some (decide (n1 ≥ low2))).bind fun c4 =>
 some (c4 && (decide (n1 ≤ high3)))
def avail_in_int64 (n1 : Int) (low2 : Int) (high3 : Int) : Option Bool :=
 (some (decide (n1 ≥ low2))).bind fun c4 =>
 some (c4 && (decide (n1 ≤ high3)))
def chart_idOf (x1 : T_api_Customer) : Option Int :=
 some x1.f_ID
noncomputable def chart_rises_Customer_int (l1 : List T_api_Customer) : Option Bool :=
 ((loopO (fun (qj2 : Int) => match qj2 with
   | i3 => (
    if (decide (i3 < (l1.length : Int))) = true then
     (rdO l1 (IntKind.wrap .i64 (i3 - 1))).bind fun x4 =>
     (chart_idOf x4).bind fun x5 =>
     (rdO l1 i3).bind fun x6 =>
     (chart_idOf x6).bind fun x7 =>
     if (decide (x5 ≥ x7)) = true then
      some (.inr (.inr false))
     else
      some (.inl (IntKind.wrap .i64 (i3 + 1)))
    else
     some (.inr (.inl ())) : Option (Int ⊕ (Unit ⊕ Bool)))) 1) : Option (Unit ⊕ Bool)).bind fun j2 => match j2 with
 | .inr o => some o
 | .inl _ =>
 some true
def chart_accOf (r1 : T_api_Record) : Option Int :=
 some r1.f_Acc
noncomputable def chart_rises_Record_Account (l1 : List T_api_Record) : Option Bool :=
 ((loopO (fun (qj2 : Int) => match qj2 with
   | i3 => (
    if (decide (i3 < (l1.length : Int))) = true then
     (rdO l1 (IntKind.wrap .i64 (i3 - 1))).bind fun x4 =>
     (chart_accOf x4).bind fun x5 =>
     (rdO l1 i3).bind fun x6 =>
     (chart_accOf x6).bind fun x7 =>
     if (decide (x5 ≥ x7)) = true then
      some (.inr (.inr false))
     else
      some (.inl (IntKind.wrap .i64 (i3 + 1)))
    else
     some (.inr (.inl ())) : Option (Int ⊕ (Unit ⊕ Bool)))) 1) : Option (Unit ⊕ Bool)).bind fun j2 => match j2 with
 | .inr o => some o
 | .inl _ =>
 some true
def chart_in_int (n1 : Int) (low2 : Int) (high3 : Int) : Option Bool :=
 (some (decide (n1 ≥ low2))).bind fun c4 =>
 some (c4 && (decide (n1 ≤ high3)))
def chart_isCustomer_1 (r1 : Int) : Option Bool :=
 (some (decide (r1 < 32))).bind fun c2 =>
 some (c2 || (decide (r1 > 126)))
noncomputable def chart_isCustomer (x1 : T_api_Customer) : Option Bool :=
 (chart_in_int x1.f_ID 1 999).bind fun x2 =>
 (gdO x2 (chart_in_int (x1.f_Name.length : Int) 1 32) (default : Bool)).bind fun x3 =>
 (some (x2 && x3)).bind fun c4 =>
 (gdO c4 (strings_ContainsFunc chart_isCustomer_1 x1.f_Name) (default : Bool)).bind fun x5 =>
 (some (c4 && (!x5))).bind fun c6 =>
 (gdO c6 (chart_in_int x1.f_Kind 0 3) (default : Bool)).bind fun x7 =>
 some (c6 && x7)
noncomputable def chart_Right_1 (x1 : T_api_Customer) : Option Bool :=
 (chart_isCustomer x1).bind fun x2 =>
 some (!x2)
noncomputable def slices_IndexFunc_Customer_Customer (s1 : List T_api_Customer) : Option Int :=
 ((loopO (fun (qj2 : Int) => match qj2 with
   | x3 => (
    if (decide (x3 < (s1.length : Int))) = true then
     (rdO s1 x3).bind fun x4 =>
     (chart_Right_1 x4).bind fun x5 =>
     if x5 = true then
      some (.inr (.inr x3))
     else
      some (.inl (IntKind.wrap .i64 (x3 + 1)))
    else
     some (.inr (.inl ())) : Option (Int ⊕ (Unit ⊕ Int)))) 0) : Option (Unit ⊕ Int)).bind fun j2 => match j2 with
 | .inr o => some o
 | .inl _ =>
 some (-1)
noncomputable def slices_ContainsFunc_Customer_Customer (s1 : List T_api_Customer) : Option Bool :=
 (slices_IndexFunc_Customer_Customer s1).bind fun x2 =>
 some (decide (x2 ≥ 0))
def cmp_isNaN_int (x1 : Int) : Option Bool :=
 some (x1 != x1)
def cmp_Compare_int (x1 : Int) (y2 : Int) : Option Int :=
 (cmp_isNaN_int x1).bind fun x3 =>
 (cmp_isNaN_int y2).bind fun x4 =>
 if x3 = true then
  if x4 = true then
   some 0
  else
   some (-1)
 else
  if x4 = true then
   some 1
  else
   if (decide (x1 < y2)) = true then
    some (-1)
   else
    if (decide (x1 > y2)) = true then
     some 1
    else
     some 0
def chart_place_Customer_int_1 (x1 : T_api_Customer) (n2 : Int) : Option Int :=
 (chart_idOf x1).bind fun x3 =>
 (cmp_Compare_int x3 n2).bind fun x4 =>
 some x4
noncomputable def slices_BinarySearchFunc_Customer_Customer_int (x1 : List T_api_Customer) (target2 : Int) : Option (Int × Bool) :=
 ((loopO (fun (qj3 : Int × Int) => match qj3 with
   | (i4, j5) => (
    if (decide (i4 < j5)) = true then
     (rdO x1 (IntKind.wrap .i64 (Int.fdiv (IntKind.wrap .u64 (IntKind.wrap .i64 (i4 + j5))) 2))).bind fun x6 =>
     (chart_place_Customer_int_1 x6 target2).bind fun x7 =>
     if (decide (x7 < 0)) = true then
      some (.inl (IntKind.wrap .i64 ((IntKind.wrap .i64 (Int.fdiv (IntKind.wrap .u64 (IntKind.wrap .i64 (i4 + j5))) 2)) + 1), j5))
     else
      some (.inl (i4, IntKind.wrap .i64 (Int.fdiv (IntKind.wrap .u64 (IntKind.wrap .i64 (i4 + j5))) 2)))
    else
     some (.inr i4) : Option ((Int × Int) ⊕ Int))) (0, (x1.length : Int))) : Option Int).bind fun j3 =>
 (some (decide (j3 < (x1.length : Int)))).bind fun c9 =>
 (gdO c9 (rdO x1 j3) (default : T_api_Customer)).bind fun x10 =>
 (gdO c9 (chart_place_Customer_int_1 x10 target2) (default : Int)).bind fun x11 =>
 some (j3, (c9 && (x11 == 0)))
noncomputable def chart_place_Customer_int (l1 : List T_api_Customer) (n2 : Int) : Option (Int × Bool) :=
 (slices_BinarySearchFunc_Customer_Customer_int l1 n2).bind fun x3 =>
 some (x3.1, x3.2)
def chart_in_Account (n1 : Int) (low2 : Int) (high3 : Int) : Option Bool :=
 (some (decide (n1 ≥ low2))).bind fun c4 =>
 some (c4 && (decide (n1 ≤ high3)))
def chart_in_Currency (n1 : Int) (low2 : Int) (high3 : Int) : Option Bool :=
 (some (decide (n1 ≥ low2))).bind fun c4 =>
 some (c4 && (decide (n1 ≤ high3)))
def date_Right (d1 : Int) : Option Bool :=
 (some (decide (d1 ≥ (-50000)))).bind fun c2 =>
 some (c2 && (decide (d1 ≤ 50000)))
def chart_isRecord (r1 : T_api_Record) : Option Bool :=
 (chart_in_Account r1.f_Acc 1 999).bind fun x2 =>
 (some (!x2)).bind fun c3 =>
 (gdO (!c3) (chart_in_int r1.f_Kind 0 3) (default : Bool)).bind fun x4 =>
 (some (c3 || (!x4))).bind fun c5 =>
 (gdO (!c5) (chart_in_Currency r1.f_Cur 0 3) (default : Bool)).bind fun x6 =>
 (some (c5 || (!x6))).bind fun c7 =>
 (gdO (!c7) (chart_in_int r1.f_Customer 0 999) (default : Bool)).bind fun x8 =>
 if (c7 || (!x8)) = true then
  some false
 else
  (some (decide (r1.f_Kind ≥ 2))).bind fun c9 =>
  (some (r1.f_Customer != 0)).bind fun c10 =>
  if (c9 && (c10 || (r1.f_Product != 0))) = true then
   some false
  else
   (chart_in_int r1.f_Product 0 20).bind fun x11 =>
   (gdO x11 (chart_in_int r1.f_Partition 0 3) (default : Bool)).bind fun x12 =>
   (some (x11 && x12)).bind fun c13 =>
   (gdO c13 (date_Right r1.f_From) (default : Bool)).bind fun x14 =>
   (some (c13 && x14)).bind fun c15 =>
   (gdO c15 (date_Right r1.f_To) (default : Bool)).bind fun x16 =>
   (some (c15 && x16)).bind fun c17 =>
   some (c17 && (decide (r1.f_From ≤ r1.f_To)))
noncomputable def chart_Right_2 (r1 : T_api_Record) (e2 : T_api_Chart) : Option Bool :=
 (chart_place_Customer_int e2.f_Customers r1.f_Customer).bind fun x3 =>
 (chart_isRecord r1).bind fun x4 =>
 (some (!x4)).bind fun c5 =>
 (some (decide (r1.f_Customer > 0))).bind fun c6 =>
 some (c5 || (c6 && (!x3.2)))
noncomputable def slices_IndexFunc_Record_Record (s1 : List T_api_Record) (e2 : T_api_Chart) : Option Int :=
 ((loopO (fun (qj3 : Int) => match qj3 with
   | x4 => (
    if (decide (x4 < (s1.length : Int))) = true then
     (rdO s1 x4).bind fun x5 =>
     (chart_Right_2 x5 e2).bind fun x6 =>
     if x6 = true then
      some (.inr (.inr x4))
     else
      some (.inl (IntKind.wrap .i64 (x4 + 1)))
    else
     some (.inr (.inl ())) : Option (Int ⊕ (Unit ⊕ Int)))) 0) : Option (Unit ⊕ Int)).bind fun j3 => match j3 with
 | .inr o => some o
 | .inl _ =>
 some (-1)
noncomputable def slices_ContainsFunc_Record_Record (s1 : List T_api_Record) (e2 : T_api_Chart) : Option Bool :=
 (slices_IndexFunc_Record_Record s1 e2).bind fun x3 =>
 some (decide (x3 ≥ 0))
noncomputable def chart_Right (c1 : T_api_Chart) : Option Bool :=
 (some (decide ((c1.f_Customers.length : Int) > 100))).bind fun c2 =>
 (some (c2 || (decide ((c1.f_Records.length : Int) > 200)))).bind fun c3 =>
 (gdO (!c3) (chart_rises_Customer_int c1.f_Customers) (default : Bool)).bind fun x4 =>
 (some (c3 || (!x4))).bind fun c5 =>
 (gdO (!c5) (chart_rises_Record_Account c1.f_Records) (default : Bool)).bind fun x6 =>
 if (c5 || (!x6)) = true then
  some false
 else
  (slices_ContainsFunc_Customer_Customer c1.f_Customers).bind fun x7 =>
  if x7 = true then
   some false
  else
   (slices_ContainsFunc_Record_Record c1.f_Records c1).bind fun x8 =>
   some (!x8)
def money_is (cur1 : Int) : Option Bool :=
 (some (decide (cur1 ≥ 0))).bind fun c2 =>
 some (c2 && (decide (cur1 < 4)))
def money_Right (m1 : T_api_Money) : Option Bool :=
 (money_is m1.f_Cur).bind fun x2 =>
 (some (x2 && (decide (m1.f_Minor ≥ (-1000000000000000))))).bind fun c3 =>
 some (c3 && (decide (m1.f_Minor ≤ 1000000000000000)))
def hold_right (h1 : T_api_Hold) : Option Bool :=
 (some (decide (h1.f_ID ≥ 1))).bind fun c2 =>
 (some (c2 && (decide (h1.f_ID ≤ 1000000)))).bind fun c3 =>
 (some (c3 && (decide (h1.f_Acc ≥ 1)))).bind fun c4 =>
 (some (c4 && (decide (h1.f_Acc ≤ 999)))).bind fun c5 =>
 (some (c5 && (decide (h1.f_Rank ≥ 0)))).bind fun c6 =>
 (money_Right h1.f_Amount).bind fun x7 =>
 (some (x7 && (decide (h1.f_Amount.f_Minor > 0)))).bind fun c8 =>
 (some (c8 && (decide (h1.f_Taken ≥ 0)))).bind fun c9 =>
 (some (c6 && (decide (h1.f_Rank ≤ 9)))).bind fun c10 =>
 (some (c10 && (c9 && (decide (h1.f_Taken ≤ h1.f_Amount.f_Minor))))).bind fun c11 =>
 (gdO c11 (date_Right h1.f_Made) (default : Bool)).bind fun x12 =>
 (some (c11 && x12)).bind fun c13 =>
 (gdO c13 (date_Right h1.f_Until) (default : Bool)).bind fun x14 =>
 (some (c13 && x14)).bind fun c15 =>
 some (c15 && (decide (h1.f_Made ≤ h1.f_Until)))
def hold_Check_1 (h1 : T_api_Hold) : Option Bool :=
 (hold_right h1).bind fun x2 =>
 some (!x2)
noncomputable def slices_IndexFunc_Hold_Hold (s1 : List T_api_Hold) : Option Int :=
 ((loopO (fun (qj2 : Int) => match qj2 with
   | x3 => (
    if (decide (x3 < (s1.length : Int))) = true then
     (rdO s1 x3).bind fun x4 =>
     (hold_Check_1 x4).bind fun x5 =>
     if x5 = true then
      some (.inr (.inr x3))
     else
      some (.inl (IntKind.wrap .i64 (x3 + 1)))
    else
     some (.inr (.inl ())) : Option (Int ⊕ (Unit ⊕ Int)))) 0) : Option (Unit ⊕ Int)).bind fun j2 => match j2 with
 | .inr o => some o
 | .inl _ =>
 some (-1)
noncomputable def slices_ContainsFunc_Hold_Hold (s1 : List T_api_Hold) : Option Bool :=
 (slices_IndexFunc_Hold_Hold s1).bind fun x2 =>
 some (decide (x2 ≥ 0))
noncomputable def hold_Check (l1 : List T_api_Hold) : Option Int :=
 (slices_ContainsFunc_Hold_Hold l1).bind fun x2 =>
 if x2 = true then
  some 1
 else
  ((loopO (fun (qj3 : Int) => match qj3 with
    | i4 => (
     if (decide (i4 < (l1.length : Int))) = true then
      (rdO l1 (IntKind.wrap .i64 (i4 - 1))).bind fun x5 =>
      (rdO l1 i4).bind fun x6 =>
      if (decide (x5.f_ID ≥ x6.f_ID)) = true then
       some (.inr (.inr 20))
      else
       some (.inl (IntKind.wrap .i64 (i4 + 1)))
     else
      some (.inr (.inl ())) : Option (Int ⊕ (Unit ⊕ Int)))) 1) : Option (Unit ⊕ Int)).bind fun j3 => match j3 with
  | .inr o => some o
  | .inl _ =>
  if (decide ((l1.length : Int) > 200)) = true then
   some 6
  else
   some 0
noncomputable def avail_Right (t1 : T_api_Till) : Option Bool :=
 ((loopO (fun (qj2 : Int) => match qj2 with
   | x3 => (
    if (decide (x3 < (t1.f_Limits.length : Int))) = true then
     (rdO t1.f_Limits x3).bind fun x4 =>
     (avail_in_Account x4.f_Acc 1 999).bind fun x5 =>
     (some (!x5)).bind fun c6 =>
     (gdO (!c6) (avail_in_int64 x4.f_Minor 0 1000000000000000) (default : Bool)).bind fun x7 =>
     (some (c6 || (!x7))).bind fun c8 =>
     (some (decide (x3 > 0))).bind fun c9 =>
     (gdO ((!c8) && c9) (rdO t1.f_Limits (IntKind.wrap .i64 (x3 - 1))) (default : T_api_Limit)).bind fun x10 =>
     if (c8 || (c9 && (decide (x10.f_Acc ≥ x4.f_Acc)))) = true then
      some (.inr (.inr false))
     else
      some (.inl (IntKind.wrap .i64 (x3 + 1)))
    else
     some (.inr (.inl ())) : Option (Int ⊕ (Unit ⊕ Bool)))) 0) : Option (Unit ⊕ Bool)).bind fun j2 => match j2 with
 | .inr o => some o
 | .inl _ =>
 (chart_Right t1.f_Chart).bind fun x11 =>
 (some (x11 && (decide ((t1.f_L.length : Int) ≤ 2000)))).bind fun c12 =>
 (gdO c12 (hold_Check t1.f_Holds) (default : Int)).bind fun x13 =>
 (some (c12 && (x13 == 0))).bind fun c14 =>
 some (c14 && (decide ((t1.f_Limits.length : Int) ≤ 200)))
def cmp_isNaN_Account (x1 : Int) : Option Bool :=
 some (x1 != x1)
def cmp_Compare_Account (x1 : Int) (y2 : Int) : Option Int :=
 (cmp_isNaN_Account x1).bind fun x3 =>
 (cmp_isNaN_Account y2).bind fun x4 =>
 if x3 = true then
  if x4 = true then
   some 0
  else
   some (-1)
 else
  if x4 = true then
   some 1
  else
   if (decide (x1 < y2)) = true then
    some (-1)
   else
    if (decide (x1 > y2)) = true then
     some 1
    else
     some 0
def chart_place_Record_Account_1 (x1 : T_api_Record) (n2 : Int) : Option Int :=
 (chart_accOf x1).bind fun x3 =>
 (cmp_Compare_Account x3 n2).bind fun x4 =>
 some x4
noncomputable def slices_BinarySearchFunc_Record_Record_Account (x1 : List T_api_Record) (target2 : Int) : Option (Int × Bool) :=
 ((loopO (fun (qj3 : Int × Int) => match qj3 with
   | (i4, j5) => (
    if (decide (i4 < j5)) = true then
     (rdO x1 (IntKind.wrap .i64 (Int.fdiv (IntKind.wrap .u64 (IntKind.wrap .i64 (i4 + j5))) 2))).bind fun x6 =>
     (chart_place_Record_Account_1 x6 target2).bind fun x7 =>
     if (decide (x7 < 0)) = true then
      some (.inl (IntKind.wrap .i64 ((IntKind.wrap .i64 (Int.fdiv (IntKind.wrap .u64 (IntKind.wrap .i64 (i4 + j5))) 2)) + 1), j5))
     else
      some (.inl (i4, IntKind.wrap .i64 (Int.fdiv (IntKind.wrap .u64 (IntKind.wrap .i64 (i4 + j5))) 2)))
    else
     some (.inr i4) : Option ((Int × Int) ⊕ Int))) (0, (x1.length : Int))) : Option Int).bind fun j3 =>
 (some (decide (j3 < (x1.length : Int)))).bind fun c9 =>
 (gdO c9 (rdO x1 j3) (default : T_api_Record)).bind fun x10 =>
 (gdO c9 (chart_place_Record_Account_1 x10 target2) (default : Int)).bind fun x11 =>
 some (j3, (c9 && (x11 == 0)))
noncomputable def chart_place_Record_Account (l1 : List T_api_Record) (n2 : Int) : Option (Int × Bool) :=
 (slices_BinarySearchFunc_Record_Record_Account l1 n2).bind fun x3 =>
 some (x3.1, x3.2)
noncomputable def chart_Find (c1 : T_api_Chart) (a2 : Int) : Option (T_api_Record × Int) :=
 (chart_Right c1).bind fun x3 =>
 if (!x3) = true then
  some ((⟨0, 0, 0, 0, 0, 0, 0, 0⟩ : T_api_Record), 1)
 else
  (chart_place_Record_Account c1.f_Records a2).bind fun x4 =>
  if (!x4.2) = true then
   some ((⟨0, 0, 0, 0, 0, 0, 0, 0⟩ : T_api_Record), 8)
  else
   (rdO c1.f_Records x4.1).bind fun x5 =>
   some (x5, 0)
def avail_check (e1 : Int) : Option (Option Int) :=
 if (e1 == 0) = true then
  some none
 else
  some (some e1)
def chart_in_Date (n1 : Int) (low2 : Int) (high3 : Int) : Option Bool :=
 (some (decide (n1 ≥ low2))).bind fun c4 =>
 some (c4 && (decide (n1 ≤ high3)))
noncomputable def chart_Is (c1 : T_api_Chart) (a2 : Int) (day3 : Int) : Option (Bool × Int) :=
 (chart_Find c1 a2).bind fun x4 =>
 if (x4.2 != 0) = true then
  some (false, x4.2)
 else
  (date_Right day3).bind fun x5 =>
  if (!x5) = true then
   some (false, 11)
  else
   (chart_in_Date day3 x4.1.f_From x4.1.f_To).bind fun x6 =>
   some (x6, 0)
def balance_may_1 (d1 : Int) : Option Bool :=
 (date_Right d1).bind fun x2 =>
 some (!x2)
noncomputable def slices_IndexFunc_Date_Date (s1 : List Int) : Option Int :=
 ((loopO (fun (qj2 : Int) => match qj2 with
   | x3 => (
    if (decide (x3 < (s1.length : Int))) = true then
     (rdO s1 x3).bind fun x4 =>
     (balance_may_1 x4).bind fun x5 =>
     if x5 = true then
      some (.inr (.inr x3))
     else
      some (.inl (IntKind.wrap .i64 (x3 + 1)))
    else
     some (.inr (.inl ())) : Option (Int ⊕ (Unit ⊕ Int)))) 0) : Option (Unit ⊕ Int)).bind fun j2 => match j2 with
 | .inr o => some o
 | .inl _ =>
 some (-1)
noncomputable def slices_ContainsFunc_Date_Date (s1 : List Int) : Option Bool :=
 (slices_IndexFunc_Date_Date s1).bind fun x2 =>
 some (decide (x2 ≥ 0))
noncomputable def balance_may (l1 : List T_api_Posting) (from_2 : Int) (to3 : Int) (more4 : List Int) : Option Int :=
 if (decide ((l1.length : Int) > 2000)) = true then
  some 4
 else
  (balance_may_1 from_2).bind fun x5 =>
  (gdO (!x5) (balance_may_1 to3) (default : Bool)).bind fun x6 =>
  (some (x5 || x6)).bind fun c7 =>
  (some (c7 || (decide (from_2 > to3)))).bind fun c8 =>
  (gdO (!c8) (slices_ContainsFunc_Date_Date more4) (default : Bool)).bind fun x9 =>
  if (c8 || x9) = true then
   some 11
  else
   some 0
def balance_great_add (n1 : Int) (e2 : T_balance_great) : Option (Bool × Int) :=
 ((if (decide (n1 < 0)) = true then
   some (IntKind.wrap .i64 (0 - n1))
 else
  some n1) : Option Int).bind fun j3 =>
 (some (decide (j3 < 0))).bind fun c5 =>
 if (c5 || (decide (j3 > (IntKind.wrap .i64 (1000000000000000000 - e2.f_sum))))) = true then
  some (true, e2.f_sum)
 else
  some (false, IntKind.wrap .i64 (e2.f_sum + j3))
noncomputable def balance_legs (l1 : List T_api_Posting) (acc2 : Int) (cur3 : Int) : Option ((List T_balance_leg) × Int) :=
 ((loopO (fun (qj4 : Int × Int × (List T_balance_leg)) => match qj4 with
   | (x5, g6, row7) => (
    if (decide (x5 < (l1.length : Int))) = true then
     (rdO l1 x5).bind fun x8 =>
     ((loopO (fun (qj9 : Int × Int × (List T_balance_leg)) => match qj9 with
       | (x10, g11, row12) => (
        if (decide (x10 < (x8.f_Legs.length : Int))) = true then
         (((rdO x8.f_Legs x10).bind fun x14 =>
         (some (x14.f_Acc != acc2)).bind fun c15 =>
         if (c15 || (x14.f_Amount.f_Cur != cur3)) = true then
          some (.inl (g11, row12))
         else
          (balance_great_add x14.f_Amount.f_Minor (⟨g11⟩ : T_balance_great)).bind fun x16 =>
          if x16.1 = true then
           some (.inr (.inr (.inr (.inr (.inr (([] : List T_balance_leg), 9))))))
          else
           (apO 16 row12 [(⟨x8.f_Known, x8.f_Value, x14.f_Amount.f_Minor⟩ : T_balance_leg)]).bind fun x17 =>
           some (.inl (x16.2, x17))) : Option ((Int × (List T_balance_leg)) ⊕ ((Int × Int × (List T_balance_leg)) ⊕ ((Int × (List T_balance_leg)) ⊕ ((Int × Int × (List T_balance_leg)) ⊕ ((List T_balance_leg) ⊕ ((List T_balance_leg) × Int))))))).bind fun j13 => match j13 with
         | .inr o => some o
         | .inl (g18, row19) =>
         some (.inl (IntKind.wrap .i64 (x10 + 1), g18, row19))
        else
         some (.inr (.inl (g11, row12))) : Option ((Int × Int × (List T_balance_leg)) ⊕ ((Int × (List T_balance_leg)) ⊕ ((Int × Int × (List T_balance_leg)) ⊕ ((List T_balance_leg) ⊕ ((List T_balance_leg) × Int))))))) (0, g6, row7)) : Option ((Int × (List T_balance_leg)) ⊕ ((Int × Int × (List T_balance_leg)) ⊕ ((List T_balance_leg) ⊕ ((List T_balance_leg) × Int))))).bind fun j9 => match j9 with
     | .inr o => some o
     | .inl (g20, row21) =>
     some (.inl (IntKind.wrap .i64 (x5 + 1), g20, row21))
    else
     some (.inr (.inl row7)) : Option ((Int × Int × (List T_balance_leg)) ⊕ ((List T_balance_leg) ⊕ ((List T_balance_leg) × Int))))) (0, 0, ([] : List T_balance_leg))) : Option ((List T_balance_leg) ⊕ ((List T_balance_leg) × Int))).bind fun j4 => match j4 with
 | .inr o => some o
 | .inl out22 =>
 some (out22, 0)
def balance_Of_1 (x1 : T_balance_leg) (e2 : Int) : Option Bool :=
 some (decide (x1.f_value ≤ e2))
noncomputable def balance_sum (l1 : List T_balance_leg) (e2 : Int) : Option Int :=
 ((loopO (fun (qj3 : Int × Int) => match qj3 with
   | (n4, x5) => (
    if (decide (x5 < (l1.length : Int))) = true then
     (rdO l1 x5).bind fun x6 =>
     (balance_Of_1 x6 e2).bind fun x7 =>
     ((if x7 = true then
       some (IntKind.wrap .i64 (n4 + x6.f_minor))
     else
      some n4) : Option Int).bind fun j8 =>
     some (.inl (j8, IntKind.wrap .i64 (x5 + 1)))
    else
     some (.inr n4) : Option ((Int × Int) ⊕ Int))) (0, 0)) : Option Int).bind fun j3 =>
 some j3
noncomputable def balance_Of (l1 : List T_api_Posting) (acc2 : Int) (cur3 : Int) (upto4 : Int) : Option (Int × Int) :=
 (balance_may l1 upto4 upto4 ([] : List Int)).bind fun x5 =>
 if (x5 != 0) = true then
  some (0, x5)
 else
  (balance_legs l1 acc2 cur3).bind fun x6 =>
  (balance_sum x6.1 upto4).bind fun x7 =>
  some (x7, x6.2)
def avail_ask_1 (x1 : T_api_Limit) (e2 : Int) : Option Bool :=
 some (x1.f_Acc == e2)
noncomputable def slices_IndexFunc_Limit_Limit (s1 : List T_api_Limit) (e2 : Int) : Option Int :=
 ((loopO (fun (qj3 : Int) => match qj3 with
   | x4 => (
    if (decide (x4 < (s1.length : Int))) = true then
     (rdO s1 x4).bind fun x5 =>
     (avail_ask_1 x5 e2).bind fun x6 =>
     if x6 = true then
      some (.inr (.inr x4))
     else
      some (.inl (IntKind.wrap .i64 (x4 + 1)))
    else
     some (.inr (.inl ())) : Option (Int ⊕ (Unit ⊕ Int)))) 0) : Option (Unit ⊕ Int)).bind fun j3 => match j3 with
 | .inr o => some o
 | .inl _ =>
 some (-1)
noncomputable def avail_ask (t1 : T_api_Till) (acc2 : Int) (now3 : Int) : Option (T_avail_account × (Option Int)) :=
 (chart_Find t1.f_Chart acc2).bind fun x4 =>
 (avail_check x4.2).bind fun x5 =>
 if (Option.isSome x5) = true then
  some ((⟨0, 0, 0⟩ : T_avail_account), x5)
 else
  if (x4.1.f_Kind != 1) = true then
   some ((⟨0, 0, 0⟩ : T_avail_account), (some 13))
  else
   (chart_Is t1.f_Chart acc2 now3).bind fun x6 =>
   (avail_check x6.2).bind fun x7 =>
   if (Option.isSome x7) = true then
    some ((⟨0, 0, 0⟩ : T_avail_account), x7)
   else
    if (!x6.1) = true then
     some ((⟨0, 0, 0⟩ : T_avail_account), (some 16))
    else
     (balance_Of t1.f_L acc2 x4.1.f_Cur now3).bind fun x8 =>
     (slices_IndexFunc_Limit_Limit t1.f_Limits acc2).bind fun x9 =>
     ((if (decide (x9 ≥ 0)) = true then
       (rdO t1.f_Limits x9).bind fun x11 =>
       some x11.f_Minor
     else
      some 0) : Option Int).bind fun j10 =>
     (avail_check x8.2).bind fun x13 =>
     some ((⟨x4.1.f_Cur, IntKind.wrap .i64 (0 - x8.1), j10⟩ : T_avail_account), x13)
def avail_whyOf (e : Option Int) : Option Int := some (e.getD 0)
noncomputable def avail_Funds (t1 : T_api_Till) (acc2 : Int) (now3 : Int) : Option (Int × Int) :=
 (avail_Right t1).bind fun x4 =>
 if (!x4) = true then
  some (0, 1)
 else
  (avail_ask t1 acc2 now3).bind fun x5 =>
  if (Option.isSome x5.2) = true then
   (avail_whyOf x5.2).bind fun x6 =>
   some (0, x6)
  else
   some (x5.1.f_funds, 0)
def avail_in_int (n1 : Int) (low2 : Int) (high3 : Int) : Option Bool :=
 (some (decide (n1 ≥ low2))).bind fun c4 =>
 some (c4 && (decide (n1 ≤ high3)))
def hold_Live (h1 : T_api_Hold) (now2 : Int) : Option Bool :=
 (hold_right h1).bind fun x3 =>
 (some (x3 && (!h1.f_Done))).bind fun c4 =>
 (some (c4 && (decide (now2 ≥ h1.f_Made)))).bind fun c5 =>
 some (c5 && (decide (now2 ≤ h1.f_Until)))
def hold_Rest (h1 : T_api_Hold) (now2 : Int) : Option Int :=
 (hold_Live h1 now2).bind fun x3 =>
 if (!x3) = true then
  some 0
 else
  some (IntKind.wrap .i64 (h1.f_Amount.f_Minor - h1.f_Taken))
def selO (acc cur now : Int) (h : T_api_Hold) : Option Bool :=
 if (h.f_Acc == acc) = true then if (h.f_Amount.f_Cur == cur) = true then hold_Live h now else some false else some false
def itO (acc cur now : Int) : List T_api_Hold → Option (List T_api_Hold)
 | [] => some []
 | h :: t => (selO acc cur now h).bind fun b => (itO acc cur now t).map fun r => bif b then h :: r else r
def sumStep (now rank : Int) (n : Int) (h : T_api_Hold) : Option Int :=
 if (decide (h.f_Rank ≥ rank)) = true then (hold_Rest h now).bind fun x => some (IntKind.wrap .i64 (n + x)) else some n
def hold_those (l : List T_api_Hold) (acc cur now : Int) : Option (List T_api_Hold) :=
 if (l.length : Int) < 4611686018427387904 then itO acc cur now l else none
noncomputable def hold_Sum (l : List T_api_Hold) (acc cur now rank : Int) : Option (Int × Int) :=
 (hold_Check l).bind fun e => if (e != 0) = true then some (0, e) else
 (hold_those l acc cur now).bind fun r => (foldO (sumStep now rank) 0 r).bind fun n => some (n, 0)
noncomputable def avail_account_free (a1 : T_avail_account) (t2 : T_api_Till) (acc3 : Int) (now4 : Int) (rank5 : Int) : Option Int :=
 (hold_Sum t2.f_Holds acc3 a1.f_cur now4 rank5).bind fun x6 =>
 some (IntKind.wrap .i64 ((IntKind.wrap .i64 (a1.f_funds + a1.f_limit)) - x6.1))
noncomputable def avail_Free (t1 : T_api_Till) (acc2 : Int) (now3 : Int) (rank4 : Int) : Option (Int × Int) :=
 (avail_Right t1).bind fun x5 =>
 (some (!x5)).bind fun c6 =>
 (gdO (!c6) (avail_in_int rank4 0 9) (default : Bool)).bind fun x7 =>
 if (c6 || (!x7)) = true then
  some (0, 1)
 else
  (avail_ask t1 acc2 now3).bind fun x8 =>
  if (Option.isSome x8.2) = true then
   (avail_whyOf x8.2).bind fun x9 =>
   some (0, x9)
  else
   (avail_account_free x8.1 t1 acc2 now3 rank4).bind fun x10 =>
   some (x10, 0)
noncomputable def avail_Pay (t1 : T_api_Till) (acc2 : Int) (amount3 : T_api_Money) (now4 : Int) : Option (Bool × Int) :=
 (avail_Right t1).bind fun x5 =>
 if (!x5) = true then
  some (false, 1)
 else
  (avail_ask t1 acc2 now4).bind fun x6 =>
  if (Option.isSome x6.2) = true then
   (avail_whyOf x6.2).bind fun x7 =>
   some (false, x7)
  else
   if (amount3.f_Cur != x6.1.f_cur) = true then
    some (false, 12)
   else
    (avail_in_int64 amount3.f_Minor 1 1000000000000000).bind fun x8 =>
    if (!x8) = true then
     some (false, 1)
    else
     (avail_account_free x6.1 t1 acc2 now4 0).bind fun x9 =>
     some (decide (amount3.f_Minor ≤ x9), 0)
noncomputable def cashbookref18_Customer (x1 : T_api_Customer) : Option Bool :=
 ((loopO (fun (qj2 : Int) => match qj2 with
   | i3 => (
    if (decide (i3 < (x1.f_Name.length : Int))) = true then
     (byO x1.f_Name i3).bind fun x4 =>
     (some (decide (x4 < 32))).bind fun c5 =>
     (gdO (!c5) (byO x1.f_Name i3) 0).bind fun x6 =>
     if (c5 || (decide (x6 > 126))) = true then
      some (.inr (.inr false))
     else
      some (.inl (IntKind.wrap .i64 (i3 + 1)))
    else
     some (.inr (.inl ())) : Option (Int ⊕ (Unit ⊕ Bool)))) 0) : Option (Unit ⊕ Bool)).bind fun j2 => match j2 with
 | .inr o => some o
 | .inl _ =>
 (some (decide (x1.f_ID ≥ 1))).bind fun c7 =>
 (some (c7 && (decide (x1.f_ID ≤ 999)))).bind fun c8 =>
 (some (c8 && (decide ((x1.f_Name.length : Int) ≥ 1)))).bind fun c9 =>
 (some (c9 && (decide ((x1.f_Name.length : Int) ≤ 32)))).bind fun c10 =>
 (some (c10 && (decide (x1.f_Kind ≥ 0)))).bind fun c11 =>
 some (c11 && (decide (x1.f_Kind ≤ 3)))
def cashbookref04_Right (d1 : Int) : Option Bool :=
 (some (decide (d1 ≥ (-50000)))).bind fun c2 =>
 some (c2 && (decide (d1 ≤ 50000)))
def cashbookref18_Record (r1 : T_api_Record) : Option Bool :=
 (some (decide (r1.f_Acc < 1))).bind fun c2 =>
 (some (c2 || (decide (r1.f_Acc > 999)))).bind fun c3 =>
 (some (c3 || (decide (r1.f_Kind < 0)))).bind fun c4 =>
 (some (c4 || (decide (r1.f_Kind > 3)))).bind fun c5 =>
 (some (c5 || (decide (r1.f_Cur < 0)))).bind fun c6 =>
 (some (c6 || (decide (r1.f_Cur > 3)))).bind fun c7 =>
 (some (c7 || (decide (r1.f_Customer < 0)))).bind fun c8 =>
 (some (c8 || (decide (r1.f_Customer > 999)))).bind fun c9 =>
 (some (c9 || (decide (r1.f_Product < 0)))).bind fun c10 =>
 (some (c10 || (decide (r1.f_Product > 20)))).bind fun c11 =>
 (some (c11 || (decide (r1.f_Partition < 0)))).bind fun c12 =>
 if (c12 || (decide (r1.f_Partition > 3))) = true then
  some false
 else
  (cashbookref04_Right r1.f_From).bind fun x13 =>
  (gdO x13 (cashbookref04_Right r1.f_To) (default : Bool)).bind fun x14 =>
  (some (x13 && x14)).bind fun c15 =>
  some (c15 && (decide (r1.f_To ≥ r1.f_From)))
def cashbookref18_Own (r1 : T_api_Record) : Option Bool :=
 (some (decide (r1.f_Kind < 2))).bind fun c2 =>
 (some (r1.f_Customer == 0)).bind fun c3 =>
 some (c2 || (c3 && (r1.f_Product == 0)))
noncomputable def cashbookref18_PlaceOf (l1 : List T_api_Customer) (id2 : Int) : Option Int :=
 ((loopO (fun (qj3 : Int) => match qj3 with
   | x4 => (
    if (decide (x4 < (l1.length : Int))) = true then
     (rdO l1 x4).bind fun x5 =>
     if (x5.f_ID == id2) = true then
      some (.inr (.inr x4))
     else
      some (.inl (IntKind.wrap .i64 (x4 + 1)))
    else
     some (.inr (.inl ())) : Option (Int ⊕ (Unit ⊕ Int)))) 0) : Option (Unit ⊕ Int)).bind fun j3 => match j3 with
 | .inr o => some o
 | .inl _ =>
 some (-1)
noncomputable def cashbookref18_Right (c1 : T_api_Chart) : Option Bool :=
 ((loopO (fun (qj2 : Int) => match qj2 with
   | x3 => (
    if (decide (x3 < (c1.f_Customers.length : Int))) = true then
     (rdO c1.f_Customers x3).bind fun x4 =>
     (cashbookref18_Customer x4).bind fun x5 =>
     (some (!x5)).bind fun c6 =>
     (some (decide (x3 > 0))).bind fun c7 =>
     (gdO ((!c6) && c7) (rdO c1.f_Customers (IntKind.wrap .i64 (x3 - 1))) (default : T_api_Customer)).bind fun x8 =>
     if (c6 || (c7 && (decide (x8.f_ID ≥ x4.f_ID)))) = true then
      some (.inr (.inr false))
     else
      some (.inl (IntKind.wrap .i64 (x3 + 1)))
    else
     some (.inr (.inl ())) : Option (Int ⊕ (Unit ⊕ Bool)))) 0) : Option (Unit ⊕ Bool)).bind fun j2 => match j2 with
 | .inr o => some o
 | .inl _ =>
 ((loopO (fun (qj9 : Int) => match qj9 with
   | x10 => (
    if (decide (x10 < (c1.f_Records.length : Int))) = true then
     (rdO c1.f_Records x10).bind fun x11 =>
     (cashbookref18_Record x11).bind fun x12 =>
     (some (!x12)).bind fun c13 =>
     (gdO (!c13) (cashbookref18_Own x11) (default : Bool)).bind fun x14 =>
     (some (c13 || (!x14))).bind fun c15 =>
     (some (decide (x10 > 0))).bind fun c16 =>
     (gdO ((!c15) && c16) (rdO c1.f_Records (IntKind.wrap .i64 (x10 - 1))) (default : T_api_Record)).bind fun x17 =>
     (some (c15 || (c16 && (decide (x17.f_Acc ≥ x11.f_Acc))))).bind fun c18 =>
     (some (decide (x11.f_Customer > 0))).bind fun c19 =>
     (gdO ((!c18) && c19) (cashbookref18_PlaceOf c1.f_Customers x11.f_Customer) (default : Int)).bind fun x20 =>
     if (c18 || (c19 && (decide (x20 < 0)))) = true then
      some (.inr (.inr false))
     else
      some (.inl (IntKind.wrap .i64 (x10 + 1)))
    else
     some (.inr (.inl ())) : Option (Int ⊕ (Unit ⊕ Bool)))) 0) : Option (Unit ⊕ Bool)).bind fun j9 => match j9 with
 | .inr o => some o
 | .inl _ =>
 (some (decide ((c1.f_Customers.length : Int) ≤ 100))).bind fun c21 =>
 some (c21 && (decide ((c1.f_Records.length : Int) ≤ 200)))
def cashbookref03_Name (cur1 : Int) : Option (List UInt8) :=
 if (cur1 == 0) = true then
  some [69, 85, 82]
 else
  if (cur1 == 1) = true then
   some [74, 80, 89]
  else
   if (cur1 == 2) = true then
    some [66, 72, 68]
   else
    if (cur1 == 3) = true then
     some [85, 83, 68]
    else
     some []
def cashbookref03_Right (m1 : T_api_Money) : Option Bool :=
 (cashbookref03_Name m1.f_Cur).bind fun x2 =>
 (some (!(x2 == []))).bind fun c3 =>
 (some (c3 && (decide (m1.f_Minor ≥ (-1000000000000000))))).bind fun c4 =>
 some (c4 && (decide (m1.f_Minor ≤ 1000000000000000)))
def cashbookref25_Right (h1 : T_api_Hold) : Option Bool :=
 (cashbookref03_Right h1.f_Amount).bind fun x2 =>
 (cashbookref04_Right h1.f_Made).bind fun x3 =>
 (cashbookref04_Right h1.f_Until).bind fun x4 =>
 (some (!x2)).bind fun c5 =>
 (some (c5 || (!x3))).bind fun c6 =>
 (some (c6 || (!x4))).bind fun c7 =>
 (some (c7 || (decide (h1.f_Until < h1.f_Made)))).bind fun c8 =>
 (some (c8 || (decide (h1.f_Amount.f_Minor ≤ 0)))).bind fun c9 =>
 (some (c9 || (decide (h1.f_Taken < 0)))).bind fun c10 =>
 if (c10 || (decide (h1.f_Taken > h1.f_Amount.f_Minor))) = true then
  some false
 else
  (some (decide (h1.f_ID ≥ 1))).bind fun c11 =>
  (some (c11 && (decide (h1.f_ID ≤ 1000000)))).bind fun c12 =>
  (some (c12 && (decide (h1.f_Acc ≥ 1)))).bind fun c13 =>
  (some (c13 && (decide (h1.f_Acc ≤ 999)))).bind fun c14 =>
  (some (c14 && (decide (h1.f_Rank ≥ 0)))).bind fun c15 =>
  some (c15 && (decide (h1.f_Rank ≤ 9)))
noncomputable def cashbookref25_Check (l1 : List T_api_Hold) : Option Int :=
 ((loopO (fun (qj2 : Int) => match qj2 with
   | i3 => (
    if (decide (i3 < (l1.length : Int))) = true then
     (rdO l1 i3).bind fun x4 =>
     (cashbookref25_Right x4).bind fun x5 =>
     if (!x5) = true then
      some (.inr (.inr 1))
     else
      some (.inl (IntKind.wrap .i64 (i3 + 1)))
    else
     some (.inr (.inl ())) : Option (Int ⊕ (Unit ⊕ Int)))) 0) : Option (Unit ⊕ Int)).bind fun j2 => match j2 with
 | .inr o => some o
 | .inl _ =>
 ((loopO (fun (qj6 : Int) => match qj6 with
   | i7 => (
    if (decide (i7 < (l1.length : Int))) = true then
     (rdO l1 i7).bind fun x8 =>
     (rdO l1 (IntKind.wrap .i64 (i7 - 1))).bind fun x9 =>
     if (decide (x8.f_ID ≤ x9.f_ID)) = true then
      some (.inr (.inr 20))
     else
      some (.inl (IntKind.wrap .i64 (i7 + 1)))
    else
     some (.inr (.inl ())) : Option (Int ⊕ (Unit ⊕ Int)))) 1) : Option (Unit ⊕ Int)).bind fun j6 => match j6 with
 | .inr o => some o
 | .inl _ =>
 if (decide ((l1.length : Int) > 200)) = true then
  some 6
 else
  some 0
noncomputable def cashbookref26_limits (l1 : List T_api_Limit) : Option Bool :=
 ((loopO (fun (qj2 : Int) => match qj2 with
   | x3 => (
    if (decide (x3 < (l1.length : Int))) = true then
     (rdO l1 x3).bind fun x4 =>
     (some (decide (x4.f_Acc < 1))).bind fun c5 =>
     (some (c5 || (decide (x4.f_Acc > 999)))).bind fun c6 =>
     (some (c6 || (decide (x4.f_Minor < 0)))).bind fun c7 =>
     (some (c7 || (decide (x4.f_Minor > 1000000000000000)))).bind fun c8 =>
     (some (decide (x3 > 0))).bind fun c9 =>
     (gdO ((!c8) && c9) (rdO l1 (IntKind.wrap .i64 (x3 - 1))) (default : T_api_Limit)).bind fun x10 =>
     if (c8 || (c9 && (decide (x10.f_Acc ≥ x4.f_Acc)))) = true then
      some (.inr (.inr false))
     else
      some (.inl (IntKind.wrap .i64 (x3 + 1)))
    else
     some (.inr (.inl ())) : Option (Int ⊕ (Unit ⊕ Bool)))) 0) : Option (Unit ⊕ Bool)).bind fun j2 => match j2 with
 | .inr o => some o
 | .inl _ =>
 some (decide ((l1.length : Int) ≤ 200))
noncomputable def cashbookref26_Right (t1 : T_api_Till) : Option Bool :=
 (cashbookref18_Right t1.f_Chart).bind fun x2 =>
 (some (x2 && (decide ((t1.f_L.length : Int) ≤ 2000)))).bind fun c3 =>
 (gdO c3 (cashbookref25_Check t1.f_Holds) (default : Int)).bind fun x4 =>
 (some (c3 && (x4 == 0))).bind fun c5 =>
 (gdO c5 (cashbookref26_limits t1.f_Limits) (default : Bool)).bind fun x6 =>
 some (c5 && x6)
def cashbooklaw26_one : Option T_api_Till :=
 some (⟨(⟨([] : List T_api_Customer), [(⟨5, 1, 0, 0, 0, 0, 0, 50000⟩ : T_api_Record)]⟩ : T_api_Chart), [(⟨0, 0, 3, [(⟨5, (⟨0, (-100)⟩ : T_api_Money)⟩ : T_api_Leg)], 0, 0, []⟩ : T_api_Posting)], [(⟨1, 5, (⟨0, 30⟩ : T_api_Money), 2, 3, 9, 0, false⟩ : T_api_Hold)], ([] : List T_api_Limit)⟩ : T_api_Till)
noncomputable def cashbooklaw26_alive : Option Bool :=
 (cashbooklaw26_one).bind fun x1 =>
 (avail_Free x1 5 4 0).bind fun x2 =>
 (cashbooklaw26_one).bind fun x3 =>
 (avail_Free x3 5 4 3).bind fun x4 =>
 (some (x2.2 == 0)).bind fun c5 =>
 (some (c5 && (x4.2 == 0))).bind fun c6 =>
 (some (c6 && (x2.1 == 70))).bind fun c7 =>
 some (c7 && (x4.1 == 100))
noncomputable def cashbookref18_Place (l1 : List T_api_Record) (a2 : Int) : Option Int :=
 ((loopO (fun (qj3 : Int) => match qj3 with
   | x4 => (
    if (decide (x4 < (l1.length : Int))) = true then
     (rdO l1 x4).bind fun x5 =>
     if (x5.f_Acc == a2) = true then
      some (.inr (.inr x4))
     else
      some (.inl (IntKind.wrap .i64 (x4 + 1)))
    else
     some (.inr (.inl ())) : Option (Int ⊕ (Unit ⊕ Int)))) 0) : Option (Unit ⊕ Int)).bind fun j3 => match j3 with
 | .inr o => some o
 | .inl _ =>
 some (-1)
noncomputable def cashbookref21_Legs (l1 : List T_api_Posting) (acc2 : Int) (cur3 : Int) : Option (List T_cashbookref21_L) :=
 ((loopO (fun (qj4 : Int × (List T_cashbookref21_L)) => match qj4 with
   | (x5, row6) => (
    if (decide (x5 < (l1.length : Int))) = true then
     (rdO l1 x5).bind fun x7 =>
     ((loopO (fun (qj8 : Int × (List T_cashbookref21_L)) => match qj8 with
       | (x9, row10) => (
        if (decide (x9 < (x7.f_Legs.length : Int))) = true then
         (rdO x7.f_Legs x9).bind fun x11 =>
         (some (x11.f_Acc == acc2)).bind fun c12 =>
         ((if (c12 && (x11.f_Amount.f_Cur == cur3)) = true then
           (apO 16 row10 [(⟨x7.f_Known, x7.f_Value, x11.f_Amount.f_Minor⟩ : T_cashbookref21_L)]).bind fun x14 =>
           some x14
         else
          some row10) : Option (List T_cashbookref21_L)).bind fun j13 =>
         some (.inl (IntKind.wrap .i64 (x9 + 1), j13))
        else
         some (.inr row10) : Option ((Int × (List T_cashbookref21_L)) ⊕ (List T_cashbookref21_L)))) (0, row6)) : Option (List T_cashbookref21_L)).bind fun j8 =>
     some (.inl (IntKind.wrap .i64 (x5 + 1), j8))
    else
     some (.inr row6) : Option ((Int × (List T_cashbookref21_L)) ⊕ (List T_cashbookref21_L)))) (0, ([] : List T_cashbookref21_L))) : Option (List T_cashbookref21_L)).bind fun j4 =>
 some j4
noncomputable def cashbookref21_Great (l1 : List T_cashbookref21_L) : Option Bool :=
 ((loopO (fun (qj2 : Int × Int) => match qj2 with
   | (sum3, x4) => (
    if (decide (x4 < (l1.length : Int))) = true then
     (rdO l1 x4).bind fun x5 =>
     (some (decide (x5.f_Minor > 1000000000000000000))).bind fun c6 =>
     if (c6 || (decide (x5.f_Minor < (-1000000000000000000)))) = true then
      some (.inr (.inr true))
     else
      ((if (decide (x5.f_Minor < 0)) = true then
        some (IntKind.wrap .i64 (sum3 - x5.f_Minor))
      else
       some (IntKind.wrap .i64 (sum3 + x5.f_Minor))) : Option Int).bind fun j7 =>
      if (decide (j7 > 1000000000000000000)) = true then
       some (.inr (.inr true))
      else
       some (.inl (j7, IntKind.wrap .i64 (x4 + 1)))
    else
     some (.inr (.inl ())) : Option ((Int × Int) ⊕ (Unit ⊕ Bool)))) (0, 0)) : Option (Unit ⊕ Bool)).bind fun j2 => match j2 with
 | .inr o => some o
 | .inl _ =>
 some false
noncomputable def cashbookref26_Why (t1 : T_api_Till) (acc2 : Int) (now3 : Int) : Option Int :=
 (cashbookref18_Place t1.f_Chart.f_Records acc2).bind fun x4 =>
 if (decide (x4 < 0)) = true then
  some 8
 else
  (rdO t1.f_Chart.f_Records x4).bind fun x5 =>
  if (x5.f_Kind != 1) = true then
   some 13
  else
   (cashbookref04_Right now3).bind fun x6 =>
   if (!x6) = true then
    some 11
   else
    (some (decide (now3 < x5.f_From))).bind fun c7 =>
    if (c7 || (decide (now3 > x5.f_To))) = true then
     some 16
    else
     (cashbookref21_Legs t1.f_L acc2 x5.f_Cur).bind fun x8 =>
     (cashbookref21_Great x8).bind fun x9 =>
     if x9 = true then
      some 9
     else
      some 0
noncomputable def cashbookref26_Cur (t1 : T_api_Till) (acc2 : Int) : Option Int :=
 (cashbookref18_Place t1.f_Chart.f_Records acc2).bind fun x3 =>
 (rdO t1.f_Chart.f_Records x3).bind fun x4 =>
 some x4.f_Cur
noncomputable def cashbookref21_Of (l1 : List T_cashbookref21_L) (upto2 : Int) : Option Int :=
 ((loopO (fun (qj3 : Int × Int) => match qj3 with
   | (n4, x5) => (
    if (decide (x5 < (l1.length : Int))) = true then
     (rdO l1 x5).bind fun x6 =>
     ((if (decide (x6.f_Value ≤ upto2)) = true then
       some (IntKind.wrap .i64 (n4 + x6.f_Minor))
     else
      some n4) : Option Int).bind fun j7 =>
     some (.inl (j7, IntKind.wrap .i64 (x5 + 1)))
    else
     some (.inr n4) : Option ((Int × Int) ⊕ Int))) (0, 0)) : Option Int).bind fun j3 =>
 some j3
noncomputable def cashbookref26_Funds (t1 : T_api_Till) (acc2 : Int) (now3 : Int) : Option Int :=
 (cashbookref26_Cur t1 acc2).bind fun x4 =>
 (cashbookref21_Legs t1.f_L acc2 x4).bind fun x5 =>
 (cashbookref21_Of x5 now3).bind fun x6 =>
 some (IntKind.wrap .i64 (0 - x6))
noncomputable def cashbookref26_limit (t1 : T_api_Till) (acc2 : Int) : Option Int :=
 ((loopO (fun (qj3 : Int) => match qj3 with
   | x4 => (
    if (decide (x4 < (t1.f_Limits.length : Int))) = true then
     (rdO t1.f_Limits x4).bind fun x5 =>
     if (x5.f_Acc == acc2) = true then
      some (.inr (.inr x5.f_Minor))
     else
      some (.inl (IntKind.wrap .i64 (x4 + 1)))
    else
     some (.inr (.inl ())) : Option (Int ⊕ (Unit ⊕ Int)))) 0) : Option (Unit ⊕ Int)).bind fun j3 => match j3 with
 | .inr o => some o
 | .inl _ =>
 some 0
noncomputable def cashbookref26_All (t1 : T_api_Till) (acc2 : Int) (now3 : Int) : Option Int :=
 (cashbookref26_Funds t1 acc2 now3).bind fun x4 =>
 (cashbookref26_limit t1 acc2).bind fun x5 =>
 some (IntKind.wrap .i64 (x4 + x5))
def cashbookref25_Live (h1 : T_api_Hold) (now2 : Int) : Option Bool :=
 (cashbookref25_Right h1).bind fun x3 =>
 (some (x3 && (!h1.f_Done))).bind fun c4 =>
 (some (c4 && (decide (h1.f_Made ≤ now2)))).bind fun c5 =>
 some (c5 && (decide (now2 ≤ h1.f_Until)))
def cashbookref25_Rest (h1 : T_api_Hold) (now2 : Int) : Option Int :=
 (cashbookref25_Live h1 now2).bind fun x3 =>
 if (!x3) = true then
  some 0
 else
  some (IntKind.wrap .i64 (h1.f_Amount.f_Minor - h1.f_Taken))
noncomputable def cashbookref25_Sum (l1 : List T_api_Hold) (acc2 : Int) (cur3 : Int) (now4 : Int) (rank5 : Int) : Option Int :=
 ((loopO (fun (qj6 : Int × Int) => match qj6 with
   | (n7, i8) => (
    if (decide (i8 < (l1.length : Int))) = true then
     (rdO l1 i8).bind fun x9 =>
     (some (x9.f_Acc == acc2)).bind fun c10 =>
     (gdO c10 (rdO l1 i8) (default : T_api_Hold)).bind fun x11 =>
     (some (c10 && (x11.f_Amount.f_Cur == cur3))).bind fun c12 =>
     (gdO c12 (rdO l1 i8) (default : T_api_Hold)).bind fun x13 =>
     ((if (c12 && (decide (x13.f_Rank ≥ rank5))) = true then
       (rdO l1 i8).bind fun x15 =>
       (cashbookref25_Rest x15 now4).bind fun x16 =>
       some (IntKind.wrap .i64 (n7 + x16))
     else
      some n7) : Option Int).bind fun j14 =>
     some (.inl (j14, IntKind.wrap .i64 (i8 + 1)))
    else
     some (.inr n7) : Option ((Int × Int) ⊕ Int))) (0, 0)) : Option Int).bind fun j6 =>
 some j6
noncomputable def cashbookref26_Free (t1 : T_api_Till) (acc2 : Int) (now3 : Int) (rank4 : Int) : Option Int :=
 (cashbookref26_All t1 acc2 now3).bind fun x5 =>
 (cashbookref26_Cur t1 acc2).bind fun x6 =>
 (cashbookref25_Sum t1.f_Holds acc2 x6 now3 rank4).bind fun x7 =>
 some (IntKind.wrap .i64 (x5 - x7))
def cashbooklaw26_amountRight (m1 : T_api_Money) : Option Bool :=
 (some (decide (m1.f_Minor ≥ 1))).bind fun c2 =>
 some (c2 && (decide (m1.f_Minor ≤ 1000000000000000)))
noncomputable def cashbooklaw26_AvailTells (t1 : T_api_Till) (acc2 : Int) (now3 : Int) (rank4 : Int) (amount5 : T_api_Money) : Option Bool :=
 (cashbooklaw26_few t1).bind fun x6 =>
 (avail_Funds x6 acc2 now3).bind fun x7 =>
 (avail_Free x6 acc2 now3 rank4).bind fun x8 =>
 (avail_Pay x6 acc2 amount5 now3).bind fun x9 =>
 (avail_Right x6).bind fun x10 =>
 (cashbookref26_Right x6).bind fun x11 =>
 (some (!(x10 == x11))).bind fun c12 =>
 (gdO (!c12) (cashbooklaw26_alive) (default : Bool)).bind fun x13 =>
 if (c12 || (!x13)) = true then
  some false
 else
  (cashbookref26_Right x6).bind fun x14 =>
  if (!x14) = true then
   (some (x7.2 == 1)).bind fun c15 =>
   (some (c15 && (x8.2 == 1))).bind fun c16 =>
   (some (c16 && (x9.2 == 1))).bind fun c17 =>
   (some (c17 && (x7.1 == 0))).bind fun c18 =>
   (some (c18 && (x8.1 == 0))).bind fun c19 =>
   some (c19 && (!x9.1))
  else
   (cashbookref26_Why x6 acc2 now3).bind fun x20 =>
   (some (decide (rank4 < 0))).bind fun c21 =>
   (some (c21 || (decide (rank4 > 9)))).bind fun c22 =>
   (some (x8.2 != 1)).bind fun c23 =>
   if (c22 && (c23 || (x8.1 != 0))) = true then
    some false
   else
    if (x20 != 0) = true then
     (some (x7.2 == x20)).bind fun c24 =>
     (some (c24 && (x9.2 == x20))).bind fun c25 =>
     (some (c25 && (x7.1 == 0))).bind fun c26 =>
     (some (c26 && (x8.1 == 0))).bind fun c27 =>
     (some (c27 && (!x9.1))).bind fun c28 =>
     (some (c21 || (decide (rank4 > 9)))).bind fun c29 =>
     some (c28 && (c29 || (x8.2 == x20)))
    else
     (some (x7.2 != 0)).bind fun c30 =>
     (gdO (!c30) (cashbookref26_Funds x6 acc2 now3) (default : Int)).bind fun x31 =>
     (some (c30 || (x7.1 != x31))).bind fun c32 =>
     (some (!(c21 || (decide (rank4 > 9))))).bind fun c33 =>
     (some (x8.2 != 0)).bind fun c34 =>
     (gdO ((!c32) && c33 && (!c34)) (cashbookref26_Free x6 acc2 now3 rank4) (default : Int)).bind fun x35 =>
     if (c32 || (c33 && (c34 || (x8.1 != x35)))) = true then
      some false
     else
      (cashbookref26_Cur x6 acc2).bind fun x36 =>
      if (amount5.f_Cur != x36) = true then
       (some (x9.2 == 12)).bind fun c37 =>
       some (c37 && (!x9.1))
      else
       (cashbooklaw26_amountRight amount5).bind fun x38 =>
       if (!x38) = true then
        (some (x9.2 == 1)).bind fun c39 =>
        some (c39 && (!x9.1))
       else
        (some (x9.2 == 0)).bind fun c40 =>
        (gdO c40 (cashbookref26_Free x6 acc2 now3 0) (default : Int)).bind fun x41 =>
        some (c40 && (x9.1 == (decide (amount5.f_Minor ≤ x41))))
end Go.Av.G
end
