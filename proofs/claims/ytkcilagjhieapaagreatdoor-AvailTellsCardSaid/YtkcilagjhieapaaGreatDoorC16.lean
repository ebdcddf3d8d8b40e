import Derived.Test.YtkcilagjhieapaaGreatDoorC15
section
set_option linter.unusedVariables false
set_option linter.unusedSimpArgs false
set_option maxRecDepth 100000
set_option maxHeartbeats 8000000
namespace Go.Av.G
open Go Go.Av Go.Proofs
def pbalance_mayr0 : List GOp := [⟨(some 8), none, .mov (.cst (.int .i64 0))⟩]
def pbalance_mayr1 : List GOp := [⟨(some 9), none, .mov (.cst (.fn 138))⟩]
def pbalance_mayr2 : List GOp := [⟨(some 11), none, .mov (.tmp 0)⟩, ⟨(some 12), none, .len false (.tmp 11)⟩, ⟨(some 13), none, .bin false .gtr (.tmp 12) (.cst (.int .i64 2000))⟩, ⟨(some 10), none, .mov (.tmp 13)⟩]
def pbalance_mayr3 : List GOp := [⟨(some 8), none, .mov (.cst (.int .i64 4))⟩]
def pbalance_mayr4 : List GOp := [⟨(some 15), none, .mov (.tmp 9)⟩, ⟨(some 16), none, .mov (.tmp 1)⟩, ⟨(some 17), none, .call 0 0 (.tmp 15) [(.tmp 16)] [] []⟩, ⟨(some 18), none, .mov (.tmp 17)⟩, ⟨(some 19), (some (18, false)), .mov (.tmp 9)⟩, ⟨(some 20), (some (18, false)), .mov (.tmp 2)⟩, ⟨(some 21), (some (18, false)), .call 0 0 (.tmp 19) [(.tmp 20)] [] []⟩, ⟨(some 22), none, .pick (.tmp 18) (.cst (.bool true)) (.tmp 21)⟩, ⟨(some 23), none, .mov (.tmp 22)⟩, ⟨(some 24), (some (23, false)), .mov (.tmp 1)⟩, ⟨(some 25), (some (23, false)), .mov (.tmp 2)⟩, ⟨(some 26), (some (23, false)), .bin false .gtr (.tmp 24) (.tmp 25)⟩, ⟨(some 27), none, .pick (.tmp 23) (.cst (.bool true)) (.tmp 26)⟩, ⟨(some 28), none, .mov (.tmp 27)⟩, ⟨(some 29), (some (28, false)), .mov (.tmp 3)⟩, ⟨(some 30), (some (28, false)), .mov (.tmp 9)⟩, ⟨(some 31), (some (28, false)), .call 0 0 (.cst (.fn 139)) [(.tmp 29), (.tmp 30)] [] []⟩, ⟨(some 32), none, .pick (.tmp 28) (.cst (.bool true)) (.tmp 31)⟩, ⟨(some 14), none, .mov (.tmp 32)⟩]
def pbalance_mayr5 : List GOp := [⟨(some 8), none, .mov (.cst (.int .i64 11))⟩]
def pbalance_mayr6 : List GOp := [⟨(some 8), none, .mov (.cst (.int .i64 0))⟩]
def pbalance_mayb : AC := (.seq (.ops pbalance_mayr0) (.seq (.ops pbalance_mayr1) (.seq (.pass 0 (.seq (.ops pbalance_mayr2) (.cond (.tmp 10) (.seq (.ops pbalance_mayr3) (.keep [] [(8, false)] [] [] [] .ret)) (.seq (.ops pbalance_mayr4) (.cond (.tmp 14) (.seq (.ops pbalance_mayr5) (.keep [] [(8, false)] [] [] [] .ret)) .skip))))) (.seq (.ops pbalance_mayr6) (.keep [] [(8, false)] [] [] [] .ret)))))
def pbalance_may : Fd := ⟨4, [.tmp 8], [], pbalance_mayb⟩
theorem pbalance_may_ag : agreeF Tryz.prog Tryz.f109 pbalance_may = true := by kernel_rfl
theorem balance_may_ok {l1 : List T_api_Posting} {from_2 : Int} {to3 : Int} {more4 : List Int} {r : Int} (h : balance_may l1 from_2 to3 more4 = some r) : Contract Tryz.prog 109 [.pv (.slice (List.map T_api_Posting.pv l1)), .pv (.int .i32 from_2), .pv (.int .i32 to3), .pv (.slice (List.map (eInt .i32) more4))] [] ⟨.pv (.int .i64 r), [], []⟩ := by
 refine contract_fin hm Tryz.func109 pbalance_may_ag (by kernel_rfl) ?_
 unfold balance_may at h
 refine W.seqOps (RunR.all (by kernel_rfl)) ?_
 refine W.seqOps (RunR.all (by kernel_rfl)) ?_
 refine W.seqPass ?_
 refine W.assoc ?_
 refine W.seqOps (RunR.stat 1 (by kernel_rfl) (RunR.dyn (Step.lenT (f := T_api_Posting.pv) (l := l1) (by kernel_rfl)) (RunR.all (by kernel_rfl)))) ?_
 refine W.seqCond (t := decide ((l1.length : Int) > 2000)) (by kernel_rfl) h (fun hc h' => ?_) (fun hc h' => ?_)
 ·replace h := h'
  refine W.assoc ?_
  refine W.seqOps (RunR.all (by kernel_rfl)) ?_
  refine W.seqKeep rfl ?_
  cases h
  exact W.seqRet ((fin_ret (by kernel_rfl)))
 ·replace h := h'
  refine W.assoc ?_
  replace h := bindS h
  obtain ⟨x5, hx5, h⟩ := h
  replace h := bindS h
  obtain ⟨x6, hx6, h⟩ := h
  replace h := bindS h
  obtain ⟨c7, hc7, h⟩ := h
  replace h := bindS h
  obtain ⟨c8, hc8, h⟩ := h
  replace h := bindS h
  obtain ⟨x9, hx9, h⟩ := h
  refine W.seqOps (RunR.stat 2 (by kernel_rfl) (RunR.cons (tab_cons (on := true) (fun _ => balance_may_1_ok hx5) tab_nil) (Step.call0 (g := 138) (caps := []) (v := .pv (.bool x5)) (by kernel_rfl) (by kernel_rfl) (by kernel_rfl) (tab_hit (by kernel_rfl)) (by kernel_rfl)) (RunR.stat 1 (by kernel_rfl) (RunR.puts 2 [(20, (bif !x5 then (.pv (.int .i32 to3)) else (.tup []))), (19, (bif !x5 then (.pv (.fn 138)) else (.tup [])))] (by cases x5 <;> kernel_rfl) (RunR.cons (tab_cons (on := (!x5)) (fun hg => balance_may_1_ok (gdO_at hg hx6)) tab_nil) (Step.gdG (!x5) (by kernel_rfl) (by
     cases x5
     ·exact .inr ⟨by kernel_rfl, by kernel_rfl, Step.call0 (g := 138) (caps := []) (v := .pv (.bool x6)) (by kernel_rfl) (by kernel_rfl) (by kernel_rfl) (tab_hit (by kernel_rfl)) (by kernel_rfl)⟩
     ·exact .inl ⟨by kernel_rfl, by kernel_rfl⟩)) (RunR.puts 1 [(22, .pv (.bool (x5 || x6)))] (by cases x5 <;> kernel_rfl) (RunR.dyn (Step.name (f := eBool) (e := (x5 || x6)) (c := c7) (by kernel_rfl) hc7) (RunR.puts 4 [(27, .pv (.bool (c7 || (decide (from_2 > to3))))), (26, (bif !c7 then (.pv (.bool (decide (from_2 > to3)))) else (.tup []))), (25, (bif !c7 then (.pv (.int .i32 to3)) else (.tup []))), (24, (bif !c7 then (.pv (.int .i32 from_2)) else (.tup [])))] (by cases c7 <;> kernel_rfl) (RunR.dyn (Step.name (f := eBool) (e := (c7 || (decide (from_2 > to3)))) (c := c8) (by kernel_rfl) hc8) (RunR.puts 2 [(30, (bif !c8 then (.pv (.fn 138)) else (.tup []))), (29, (bif !c8 then (.pv (.slice (List.map (eInt .i32) more4))) else (.tup [])))] (by cases c8 <;> kernel_rfl) (RunR.cons (tab_cons (on := (!c8)) (fun hg => slices_ContainsFunc_Date_Date_ok (gdO_at hg hx9)) tab_nil) (Step.gdG (!c8) (by kernel_rfl) (by
     cases c8
     ·exact .inr ⟨by kernel_rfl, by kernel_rfl, Step.call0 (g := 139) (caps := []) (v := .pv (.bool x9)) (by kernel_rfl) (by kernel_rfl) (by kernel_rfl) (tab_hit (by kernel_rfl)) (by kernel_rfl)⟩
     ·exact .inl ⟨by kernel_rfl, by kernel_rfl⟩)) (RunR.puts 1 [(32, .pv (.bool (c8 || x9)))] (by cases c8 <;> kernel_rfl) (RunR.all (by kernel_rfl)))))))))))))) ?_
  refine W.seqCond (t := (c8 || x9)) (by kernel_rfl) h (fun hc h' => ?_) (fun hc h' => ?_)
  ·replace h := h'
   refine W.assoc ?_
   refine W.seqOps (RunR.all (by kernel_rfl)) ?_
   refine W.seqKeep rfl ?_
   cases h
   exact W.seqRet ((fin_ret (by kernel_rfl)))
  ·replace h := h'
   refine W.seqSkip ?_
   refine W.seqOps (RunR.all (by kernel_rfl)) ?_
   refine W.keep rfl ?_
   cases h
   exact W.ret ((fin_ret (by kernel_rfl)))
def pbalance_great_addr0 : List GOp := [⟨(some 4), none, .mov (.cst (.bool false))⟩]
def pbalance_great_addr1 : List GOp := [⟨(some 5), none, .mov (.tmp 1)⟩, ⟨(some 6), none, .bin false .lss (.tmp 5) (.cst (.int .i64 0))⟩]
def pbalance_great_addr2 : List GOp := [⟨(some 7), none, .mov (.tmp 1)⟩, ⟨(some 8), none, .un .neg (.tmp 7)⟩, ⟨(some 1), none, .mov (.tmp 8)⟩]
def pbalance_great_addr3 : List GOp := [⟨(some 9), none, .mov (.tmp 1)⟩, ⟨(some 10), none, .bin false .lss (.tmp 9) (.cst (.int .i64 0))⟩, ⟨(some 11), none, .mov (.tmp 10)⟩, ⟨(some 12), (some (11, false)), .mov (.tmp 1)⟩, ⟨(some 13), (some (11, false)), .mov (.tmp 0)⟩, ⟨(some 14), (some (11, false)), .nchk (.tmp 13)⟩, ⟨(some 15), (some (11, false)), .fld 0 (.tmp 14)⟩, ⟨(some 16), (some (11, false)), .load false 1 (.tmp 15)⟩, ⟨(some 17), (some (11, false)), .bin false .sub (.cst (.int .i64 1000000000000000000)) (.tmp 16)⟩, ⟨(some 18), (some (11, false)), .bin false .gtr (.tmp 12) (.tmp 17)⟩, ⟨(some 19), none, .pick (.tmp 11) (.cst (.bool true)) (.tmp 18)⟩]
def pbalance_great_addr4 : List GOp := [⟨(some 4), none, .mov (.cst (.bool true))⟩]
def pbalance_great_addr5 : List GOp := [⟨(some 20), none, .mov (.tmp 0)⟩, ⟨(some 21), none, .nchk (.tmp 20)⟩, ⟨(some 22), none, .fld 0 (.tmp 21)⟩, ⟨(some 23), none, .load false 1 (.tmp 22)⟩, ⟨(some 24), none, .mov (.tmp 1)⟩, ⟨(some 25), none, .bin false .add (.tmp 23) (.tmp 24)⟩, ⟨(some 26), none, .nchk (.tmp 20)⟩, ⟨(some 27), none, .fld 0 (.tmp 26)⟩, ⟨none, none, .store 1 (.tmp 27) (.tmp 25)⟩]
def pbalance_great_addr6 : List GOp := [⟨(some 4), none, .mov (.cst (.bool false))⟩]
def pbalance_great_addb : AC := (.seq (.ops pbalance_great_addr0) (.seq (.seq (.ops pbalance_great_addr1) (.cond (.tmp 6) (.ops pbalance_great_addr2) .skip)) (.seq (.seq (.keep [] [(0, false), (1, false)] [(.ext 0, false)] [] [] (.ops pbalance_great_addr3)) (.cond (.tmp 19) (.seq (.ops pbalance_great_addr4) (.keep [] [(4, false)] [(.ext 0, false)] [] [] .ret)) .skip)) (.seq (.ops pbalance_great_addr5) (.seq (.ops pbalance_great_addr6) (.keep [] [(4, false)] [(.ext 0, false)] [] [] .ret))))))
def pbalance_great_add : Fd := ⟨2, [.tmp 4], [], pbalance_great_addb⟩
theorem pbalance_great_add_ag : agreeF Tryz.prog Tryz.f140 pbalance_great_add = true := by kernel_rfl
theorem balance_great_add_ok {n1 : Int} {e2 : T_balance_great} {r : Bool × Int} (h : balance_great_add n1 e2 = some r) : Contract Tryz.prog 140 [.ptr (.ext 0) 0, .pv (.int .i64 n1)] [.box [.pv (.int .i64 e2.f_sum)]] ⟨.pv (.bool r.1), [], [(some (.box [.pv (.int .i64 r.2)]))]⟩ := by
 refine contract_fin hm Tryz.func140 pbalance_great_add_ag (by kernel_rfl) ?_
 unfold balance_great_add at h
 refine W.seqOps (RunR.all (by kernel_rfl)) ?_
 refine W.assoc ?_
 refine W.seqOps (RunR.all (by kernel_rfl)) ?_
 replace h := bindS h
 obtain ⟨j3, hj3, h⟩ := h
 refine W.join (j := j3) (fun p σ => σ.tidy [] [(0, false), (1, false)] [(.ext 0, false)] [] [] = ⟨[(0, .ptr (.ext 0) 0), (1, .pv (.int .i64 p))], [(.ext 0, .box [.pv (.int .i64 e2.f_sum)])]⟩) ?_ (fun σj3 hsj3 => ?_)
 ·replace h := hj3
  refine W.condI (t := decide (n1 < 0)) (by kernel_rfl) h (fun hc h' => ?_) (fun hc h' => ?_)
  ·replace h := h'
   refine W.ops (RunR.all (by kernel_rfl)) ?_
   cases h
   exact (normw (by (show _ = _); kernel_rfl))
  ·replace h := h'
   cases h
   exact W.skip ((normw (by (show _ = _); kernel_rfl)))
 ·refine W.assoc ?_
  refine W.seqKeep hsj3 ?_
  replace h := bindS h
  obtain ⟨c5, hc5, h⟩ := h
  refine W.seqOps (RunR.stat 2 (by kernel_rfl) (RunR.dyn (Step.name (f := eBool) (e := decide (j3 < 0)) (c := c5) (by kernel_rfl) hc5) (RunR.puts 8 [(19, .pv (.bool (c5 || (decide (j3 > (IntKind.wrap .i64 (1000000000000000000 - e2.f_sum))))))), (18, (bif !c5 then (.pv (.bool (decide (j3 > (IntKind.wrap .i64 (1000000000000000000 - e2.f_sum)))))) else (.tup []))), (17, (bif !c5 then (.pv (.int .i64 (IntKind.wrap .i64 (1000000000000000000 - e2.f_sum)))) else (.tup []))), (16, (bif !c5 then (.pv (.int .i64 e2.f_sum)) else (.tup []))), (15, (bif !c5 then (.ptr (.ext 0) 0) else (.tup []))), (14, (bif !c5 then (.ptr (.ext 0) 0) else (.tup []))), (13, (bif !c5 then (.ptr (.ext 0) 0) else (.tup []))), (12, (bif !c5 then (.pv (.int .i64 j3)) else (.tup [])))] (by cases c5 <;> kernel_rfl) ((.nil _))))) ?_
  refine W.seqCond (t := (c5 || (decide (j3 > (IntKind.wrap .i64 (1000000000000000000 - e2.f_sum)))))) (by kernel_rfl) h (fun hc h' => ?_) (fun hc h' => ?_)
  ·replace h := h'
   refine W.assoc ?_
   refine W.seqOps (RunR.all (by kernel_rfl)) ?_
   refine W.seqKeep rfl ?_
   cases h
   exact W.seqRet ((fin_ret (by kernel_rfl)))
  ·replace h := h'
   refine W.seqSkip ?_
   refine W.seqOps (RunR.all (by kernel_rfl)) ?_
   refine W.seqOps (RunR.all (by kernel_rfl)) ?_
   refine W.keep rfl ?_
   cases h
   exact W.ret ((fin_ret (by kernel_rfl)))
def pbalance_legsr0 : List GOp := [⟨(some 6), none, .mov .nils⟩, ⟨(some 7), none, .mov (.cst (.int .i64 0))⟩]
def pbalance_legsr1 : List GOp := [⟨(some 8), none, .mov .nils⟩]
def pbalance_legsr2 : List GOp := [⟨(some 9), none, .alloc [.pv (.int .i64 0)]⟩]
def pbalance_legsr3 : List GOp := [⟨(some 14), none, .mov (.tmp 0)⟩, ⟨(some 15), none, .len false (.tmp 14)⟩, ⟨(some 16), none, .mov (.cst (.int .i64 0))⟩]
def pbalance_legsr4 : List GOp := [⟨(some 17), none, .bin false .lss (.tmp 16) (.tmp 15)⟩]
def pbalance_legsr5 : List GOp := [⟨(some 18), none, .idx 7 (.tmp 14) (.tmp 16)⟩, ⟨(some 19), none, .load true 7 (.tmp 18)⟩, ⟨(some 11), none, .alloc [.pv (.int .i64 0), .pv (.int .i32 0), .pv (.int .i32 0), .nils, .pv (.int .i64 0), .pv (.int .i64 0), .pv (.str [])]⟩, ⟨none, none, .store 7 (.tmp 11) (.tmp 19)⟩]
def pbalance_legsr6 : List GOp := [⟨(some 20), none, .fld 3 (.tmp 11)⟩, ⟨(some 21), none, .load false 1 (.tmp 20)⟩, ⟨(some 22), none, .len false (.tmp 21)⟩, ⟨(some 23), none, .mov (.cst (.int .i64 0))⟩]
def pbalance_legsr7 : List GOp := [⟨(some 24), none, .bin false .lss (.tmp 23) (.tmp 22)⟩]
def pbalance_legsr8 : List GOp := [⟨(some 25), none, .idx 3 (.tmp 21) (.tmp 23)⟩, ⟨(some 26), none, .load true 3 (.tmp 25)⟩, ⟨(some 13), none, .alloc [.pv (.int .i64 0), .pv (.int .i64 0), .pv (.int .i64 0)]⟩, ⟨none, none, .store 3 (.tmp 13) (.tmp 26)⟩]
def pbalance_legsr9 : List GOp := [⟨(some 27), none, .fld 0 (.tmp 13)⟩, ⟨(some 28), none, .load false 1 (.tmp 27)⟩, ⟨(some 29), none, .mov (.tmp 1)⟩, ⟨(some 30), none, .bin false .neq (.tmp 28) (.tmp 29)⟩, ⟨(some 31), none, .mov (.tmp 30)⟩, ⟨(some 32), (some (31, false)), .fld 1 (.tmp 13)⟩, ⟨(some 33), (some (31, false)), .fld 0 (.tmp 32)⟩, ⟨(some 34), (some (31, false)), .load false 1 (.tmp 33)⟩, ⟨(some 35), (some (31, false)), .mov (.tmp 2)⟩, ⟨(some 36), (some (31, false)), .bin false .neq (.tmp 34) (.tmp 35)⟩, ⟨(some 37), none, .pick (.tmp 31) (.cst (.bool true)) (.tmp 36)⟩]
def pbalance_legsr10 : List GOp := [⟨(some 38), none, .fld 1 (.tmp 13)⟩, ⟨(some 39), none, .fld 1 (.tmp 38)⟩, ⟨(some 40), none, .load false 1 (.tmp 39)⟩, ⟨(some 41), none, .call 0 2 (.cst (.fn 140)) [(.tmp 9), (.tmp 40)] [] [.loc 9 0]⟩]
def pbalance_legsr11 : List GOp := [⟨(some 6), none, .mov .nils⟩, ⟨(some 7), none, .mov (.cst (.int .i64 9))⟩]
def pbalance_legsr12 : List GOp := [⟨(some 42), none, .mov (.tmp 8)⟩, ⟨(some 43), none, .fld 1 (.tmp 11)⟩, ⟨(some 44), none, .load false 1 (.tmp 43)⟩, ⟨(some 45), none, .fld 2 (.tmp 11)⟩, ⟨(some 46), none, .load false 1 (.tmp 45)⟩, ⟨(some 47), none, .fld 1 (.tmp 13)⟩, ⟨(some 48), none, .fld 1 (.tmp 47)⟩, ⟨(some 49), none, .load false 1 (.tmp 48)⟩, ⟨(some 50), none, .build [.pv (.int .i32 0), .pv (.int .i32 0), .pv (.int .i64 0)] [(0, 1, (.tmp 44)), (1, 1, (.tmp 46)), (2, 1, (.tmp 49))]⟩, ⟨(some 51), none, .lit false 3 [(.tmp 50)]⟩, ⟨(some 52), none, .append 8 3 16 (.tmp 42) (.tmp 51)⟩, ⟨(some 8), none, .mov (.tmp 52)⟩]
def pbalance_legsr13 : List GOp := [⟨(some 53), none, .bin false .add (.tmp 23) (.cst (.int .i64 1))⟩, ⟨(some 23), none, .mov (.tmp 53)⟩]
def pbalance_legsl14 : AC := (.keep [] [(1, false), (2, false), (8, false), (9, false), (11, false), (14, false), (15, false), (16, false), (21, false), (22, false), (23, false)] [(.loc 8 0, false), (.loc 11 0, false), (.loc 9 0, false)] [] [] (.seq (.ops pbalance_legsr7) (.seq (.cond (.tmp 24) .skip (.exit 2)) (.seq (.block 3 (.seq (.ops pbalance_legsr8) (.seq (.seq (.ops pbalance_legsr9) (.cond (.tmp 37) (.exit 3) .skip)) (.seq (.seq (.ops pbalance_legsr10) (.cond (.tmp 41) (.seq (.ops pbalance_legsr11) (.keep [] [(6, true), (7, false)] [] [.loc 11 0, .loc 13 0, .loc 8 0, .loc 9 0] [] .ret)) .skip)) (.ops pbalance_legsr12))))) (.keep [] [(1, false), (2, false), (8, false), (9, false), (11, false), (14, false), (15, false), (16, false), (21, false), (22, false), (23, false)] [(.loc 8 0, false), (.loc 11 0, false), (.loc 9 0, false)] [.loc 13 0] [] (.ops pbalance_legsr13))))))
def pbalance_legsr15 : List GOp := [⟨(some 54), none, .bin false .add (.tmp 16) (.cst (.int .i64 1))⟩, ⟨(some 16), none, .mov (.tmp 54)⟩]
def pbalance_legsl16 : AC := (.keep [] [(1, false), (2, false), (8, false), (9, false), (14, false), (15, false), (16, false)] [(.loc 8 0, false), (.loc 9 0, false)] [] [.slot 8 (.loc 8 0) 3] (.seq (.ops pbalance_legsr4) (.seq (.cond (.tmp 17) .skip (.exit 0)) (.seq (.pass 1 (.seq (.ops pbalance_legsr5) (.seq (.ops pbalance_legsr6) (.block 2 (.loop [1, 2, 8, 9, 11, 14, 15, 16, 21, 22, 23] [] pbalance_legsl14))))) (.keep [] [(1, false), (2, false), (8, false), (9, false), (14, false), (15, false), (16, false)] [(.loc 8 0, false), (.loc 9 0, false)] [.loc 11 0] [] (.ops pbalance_legsr15))))))
def pbalance_legsr17 : List GOp := [⟨(some 55), none, .mov (.tmp 8)⟩, ⟨(some 6), none, .mov (.tmp 55)⟩, ⟨(some 7), none, .mov (.cst (.int .i64 0))⟩]
def pbalance_legsb : AC := (.seq (.ops pbalance_legsr0) (.seq (.ops pbalance_legsr1) (.seq (.ops pbalance_legsr2) (.seq (.seq (.ops pbalance_legsr3) (.block 0 (.loop [1, 2, 8, 9, 14, 15, 16] [] pbalance_legsl16))) (.seq (.keep [.loc 8 0] [(8, true)] [] [.loc 9 0] [] (.ops pbalance_legsr17)) (.keep [] [(6, true), (7, false)] [] [.loc 11 0, .loc 13 0, .loc 8 0, .loc 9 0] [] .ret))))))
def pbalance_legs : Fd := ⟨3, [.tmp 6, .tmp 7], [], pbalance_legsb⟩
theorem pbalance_legs_ag : agreeF Tryz.prog Tryz.f110 pbalance_legs = true := by kernel_rfl
theorem balance_legs_ok {l1 : List T_api_Posting} {acc2 : Int} {cur3 : Int} {r : (List T_balance_leg) × Int} (h : balance_legs l1 acc2 cur3 = some r) : Contract Tryz.prog 110 [.pv (.slice (List.map T_api_Posting.pv l1)), .pv (.int .i64 acc2), .pv (.int .i64 cur3)] [] ⟨.tup [.pv (.slice (List.map T_balance_leg.pv r.1)), .pv (.int .i64 r.2)], [], []⟩ := by
 refine contract_fin hm Tryz.func110 pbalance_legs_ag (by kernel_rfl) ?_
 unfold balance_legs at h
 refine W.seqOps (RunR.all (by kernel_rfl)) ?_
 refine W.seqOps (RunR.all (by kernel_rfl)) ?_
 refine W.seqOps (RunR.all (by kernel_rfl)) ?_
 refine W.assoc ?_
 refine W.seqOps (RunR.stat 1 (by kernel_rfl) (RunR.dyn (Step.lenT (f := T_api_Posting.pv) (l := l1) (by kernel_rfl)) (RunR.all (by kernel_rfl)))) ?_
 replace h := bindS h
 obtain ⟨j4, hj4, h⟩ := h
 refine W.joinOut (j := j4) (o := r) (fun p σ => σ.tidy [.loc 8 0] [(8, true)] [] [.loc 9 0] [] = ⟨[(8, .pv (.slice (List.map T_balance_leg.pv p)))], []⟩) ?_ (fun out22 σj4 hp hsj4 => ?_) (fun p hp => ?_)
 ·refine W.blockLoopO (fun q σ => ((σ.forget [1, 2, 8, 9, 14, 15, 16]).killAll []).tidy [] [(1, false), (2, false), (8, false), (9, false), (14, false), (15, false), (16, false)] [(.loc 8 0, false), (.loc 9 0, false)] [] [.slot 8 (.loc 8 0) 3] = ⟨[(1, .pv (.int .i64 acc2)), (2, .pv (.int .i64 cur3)), (8, .own (.loc 8 0)), (9, .ptr (.loc 9 0) 0), (14, .pv (.slice (List.map T_api_Posting.pv l1))), (15, .pv (.int .i64 (l1.length : Int))), (16, .pv (.int .i64 q.1))], [(.loc 8 0, .row 3 (List.map T_balance_leg.pv q.2.2)), (.loc 9 0, .box [.pv (.int .i64 q.2.1)])]⟩) hj4 ?_ ?_
  ·show _ = _
   kernel_rfl
  ·intro q σj4 oj4 hJj4 h
   obtain ⟨x5, g6, row7⟩ := q
   refine W.keep hJj4 ?_
   refine W.seqOps (RunR.all (by kernel_rfl)) ?_
   refine W.seqCond (t := decide (x5 < (l1.length : Int))) (by kernel_rfl) h (fun hc h' => ?_) (fun hc h' => ?_)
   ·replace h := h'
    refine W.seqSkip ?_
    refine W.seqPass ?_
    refine W.assoc ?_
    replace h := bindS h
    obtain ⟨x8, hx8, h⟩ := h
    refine W.seqOps (RunR.dyn (Step.idxT (f := T_api_Posting.pv) (l := l1) (n := x5) (e := x8) (k := .i64) (by kernel_rfl) (by kernel_rfl) hx8 (by kernel_rfl)) (RunR.all (by kernel_rfl))) ?_
    refine W.assoc ?_
    refine W.seqOps (RunR.stat 2 (by kernel_rfl) (RunR.dyn (Step.lenT (f := T_api_Leg.pv) (l := x8.f_Legs) (by kernel_rfl)) (RunR.all (by kernel_rfl)))) ?_
    replace h := bindS h
    obtain ⟨j9, hj9, h⟩ := h
    refine W.joinOut (j := j9) (o := oj4) (fun p σ => σ.tidy [] [(1, false), (2, false), (8, false), (9, false), (14, false), (15, false), (16, false)] [(.loc 8 0, false), (.loc 9 0, false)] [.loc 11 0] [] = ⟨[(1, .pv (.int .i64 acc2)), (2, .pv (.int .i64 cur3)), (8, .own (.loc 8 0)), (9, .ptr (.loc 9 0) 0), (14, .pv (.slice (List.map T_api_Posting.pv l1))), (15, .pv (.int .i64 (l1.length : Int))), (16, .pv (.int .i64 x5))], [(.loc 8 0, .row 3 (List.map T_balance_leg.pv p.2)), (.loc 9 0, .box [.pv (.int .i64 p.1)])]⟩) ?_ (fun p σj9 hp hsj9 => ?_) (fun p hp => ?_)
    ·refine W.blockLoopO (fun q σ => ((σ.forget [1, 2, 8, 9, 11, 14, 15, 16, 21, 22, 23]).killAll []).tidy [] [(1, false), (2, false), (8, false), (9, false), (11, false), (14, false), (15, false), (16, false), (21, false), (22, false), (23, false)] [(.loc 8 0, false), (.loc 11 0, false), (.loc 9 0, false)] [] [] = ⟨[(1, .pv (.int .i64 acc2)), (2, .pv (.int .i64 cur3)), (8, .own (.loc 8 0)), (9, .ptr (.loc 9 0) 0), (11, .ptr (.loc 11 0) 0), (14, .pv (.slice (List.map T_api_Posting.pv l1))), (15, .pv (.int .i64 (l1.length : Int))), (16, .pv (.int .i64 x5)), (21, .pv (.slice (List.map T_api_Leg.pv x8.f_Legs))), (22, .pv (.int .i64 (x8.f_Legs.length : Int))), (23, .pv (.int .i64 q.1))], [(.loc 8 0, .row 3 (List.map T_balance_leg.pv q.2.2)), (.loc 11 0, .box [.pv (.int .i64 x8.f_ID), .pv (.int .i32 x8.f_Known), .pv (.int .i32 x8.f_Value), .pv (.slice (List.map T_api_Leg.pv x8.f_Legs)), .pv (.int .i64 x8.f_Reverses), .pv (.int .i64 x8.f_Kind), .pv (.str x8.f_Memo)]), (.loc 9 0, .box [.pv (.int .i64 q.2.1)])]⟩) hj9 ?_ ?_
     ·show _ = _
      kernel_rfl
     ·intro q σj9 oj9 hJj9 h
      obtain ⟨x10, g11, row12⟩ := q
      refine W.keep hJj9 ?_
      refine W.seqOps (RunR.all (by kernel_rfl)) ?_
      refine W.seqCond (t := decide (x10 < (x8.f_Legs.length : Int))) (by kernel_rfl) h (fun hc h' => ?_) (fun hc h' => ?_)
      ·replace h := h'
       refine W.seqSkip ?_
       replace h := bindS h
       obtain ⟨j13, hj13, h⟩ := h
       refine W.joinOut (j := j13) (o := oj9) (fun p σ => σ.tidy [] [(1, false), (2, false), (8, false), (9, false), (11, false), (14, false), (15, false), (16, false), (21, false), (22, false), (23, false)] [(.loc 8 0, false), (.loc 11 0, false), (.loc 9 0, false)] [.loc 13 0] [] = ⟨[(1, .pv (.int .i64 acc2)), (2, .pv (.int .i64 cur3)), (8, .own (.loc 8 0)), (9, .ptr (.loc 9 0) 0), (11, .ptr (.loc 11 0) 0), (14, .pv (.slice (List.map T_api_Posting.pv l1))), (15, .pv (.int .i64 (l1.length : Int))), (16, .pv (.int .i64 x5)), (21, .pv (.slice (List.map T_api_Leg.pv x8.f_Legs))), (22, .pv (.int .i64 (x8.f_Legs.length : Int))), (23, .pv (.int .i64 x10))], [(.loc 8 0, .row 3 (List.map T_balance_leg.pv p.2)), (.loc 11 0, .box [.pv (.int .i64 x8.f_ID), .pv (.int .i32 x8.f_Known), .pv (.int .i32 x8.f_Value), .pv (.slice (List.map T_api_Leg.pv x8.f_Legs)), .pv (.int .i64 x8.f_Reverses), .pv (.int .i64 x8.f_Kind), .pv (.str x8.f_Memo)]), (.loc 9 0, .box [.pv (.int .i64 p.1)])]⟩) ?_ (fun p σj13 hp hsj13 => ?_) (fun p hp => ?_)
       ·refine W.blockJO ?_
        replace h := hj13
        replace h := bindS h
        obtain ⟨x14, hx14, h⟩ := h
        refine W.seqOps (RunR.dyn (Step.idxT (f := T_api_Leg.pv) (l := x8.f_Legs) (n := x10) (e := x14) (k := .i64) (by kernel_rfl) (by kernel_rfl) hx14 (by kernel_rfl)) (RunR.all (by kernel_rfl))) ?_
        refine W.assoc ?_
        replace h := bindS h
        obtain ⟨c15, hc15, h⟩ := h
        refine W.seqOps (RunR.stat 4 (by kernel_rfl) (RunR.dyn (Step.name (f := eBool) (e := (x14.f_Acc != acc2)) (c := c15) (by kernel_rfl) hc15) (RunR.puts 6 [(37, .pv (.bool (c15 || (x14.f_Amount.f_Cur != cur3)))), (36, (bif !c15 then (.pv (.bool (x14.f_Amount.f_Cur != cur3))) else (.tup []))), (35, (bif !c15 then (.pv (.int .i64 cur3)) else (.tup []))), (34, (bif !c15 then (.pv (.int .i64 x14.f_Amount.f_Cur)) else (.tup []))), (33, (bif !c15 then (.ptr (.loc 13 0) 1) else (.tup []))), (32, (bif !c15 then (.ptr (.loc 13 0) 1) else (.tup [])))] (by cases c15 <;> kernel_rfl) ((.nil _))))) ?_
        refine W.seqCond (t := (c15 || (x14.f_Amount.f_Cur != cur3))) (by kernel_rfl) h (fun hc h' => ?_) (fun hc h' => ?_)
        ·replace h := h'
         cases h
         exact W.seqExit ((bout_x (by (show _ = _); kernel_rfl)))
        ·replace h := h'
         refine W.seqSkip ?_
         refine W.assoc ?_
         replace h := bindS h
         obtain ⟨x16, hx16, h⟩ := h
         refine W.seqOps (RunR.stat 3 (by kernel_rfl) (RunR.cons (tab_cons (on := true) (fun _ => balance_great_add_ok hx16) tab_nil) (Step.callG (g := 140) (caps := []) (v := .pv (.bool x16.1)) (ins := []) rfl (by kernel_rfl) (by kernel_rfl) (by kernel_rfl) (tab_hit (by kernel_rfl)) (by kernel_rfl) (by kernel_rfl)) ((.nil _)))) ?_
         refine W.seqCond (t := x16.1) (by kernel_rfl) h (fun hc h' => ?_) (fun hc h' => ?_)
         ·replace h := h'
          refine W.assoc ?_
          refine W.seqOps (RunR.all (by kernel_rfl)) ?_
          refine W.seqKeep rfl ?_
          cases h
          exact W.seqRet ((bout_o ret_ne ret_ne' (fun e => by subst e; exact (outw_out ret_ne (bout_o ret_ne ret_ne' (fun e => by subst e; exact (outw_out ret_ne (bout_o ret_ne ret_ne' (fun e => by subst e; exact (fin_ret (by kernel_rfl)))))))))))
         ·replace h := h'
          refine W.seqSkip ?_
          replace h := bindS h
          obtain ⟨x17, hx17, h⟩ := h
          refine W.ops (RunR.stat 10 (by kernel_rfl) (RunR.dyn (Step.appendOwnT (k := .loc 8 0) (f := T_balance_leg.pv) (l := row12) (m := [(⟨x8.f_Known, x8.f_Value, x14.f_Amount.f_Minor⟩ : T_balance_leg)]) (by kernel_rfl) (by kernel_rfl) (by kernel_rfl) hx17 (fun _ => rfl) (by kernel_rfl)) (RunR.all (by kernel_rfl)))) ?_
          cases h
          exact (bout_n (by (show _ = _); kernel_rfl))
       ·subst hp
        obtain ⟨g18, row19⟩ := p
        refine W.keep hsj13 ?_
        refine W.ops (RunR.all (by kernel_rfl)) ?_
        cases h
        exact (outw_in (by (show _ = _); kernel_rfl))
       ·subst hp
        exact Option.some.inj h
      ·replace h := h'
       cases h
       exact W.seqExit ((outw_out exit_ne (bout_x (by (show _ = _); kernel_rfl))))
    ·subst hp
     obtain ⟨g20, row21⟩ := p
     refine W.keep hsj9 ?_
     refine W.ops (RunR.all (by kernel_rfl)) ?_
     cases h
     exact (outw_in (by (show _ = _); kernel_rfl))
    ·subst hp
     exact Option.some.inj h
   ·replace h := h'
    cases h
    exact W.seqExit ((outw_out exit_ne (bout_x (by (show _ = _); kernel_rfl))))
 ·subst hp
  refine W.seqKeep hsj4 ?_
  refine W.seqOps (RunR.all (by kernel_rfl)) ?_
  refine W.keep rfl ?_
  cases h
  exact W.ret ((fin_ret (by kernel_rfl)))
 ·subst hp
  exact Option.some.inj h
def pbalance_Of_1r0 : List GOp := [⟨(some 2), none, .box (.tmp 0)⟩, ⟨(some 3), none, .mov (.cst (.bool false))⟩]
def pbalance_Of_1r1 : List GOp := [⟨(some 4), none, .fld 1 (.tmp 2)⟩, ⟨(some 5), none, .load false 1 (.tmp 4)⟩, ⟨(some 6), none, .load false 1 (.tmp 1)⟩, ⟨(some 7), none, .bin false .leq (.tmp 5) (.tmp 6)⟩, ⟨(some 3), none, .mov (.tmp 7)⟩]
def pbalance_Of_1b : AC := (.seq (.ops pbalance_Of_1r0) (.seq (.ops pbalance_Of_1r1) (.keep [] [(3, false)] [(.ext 0, false)] [.loc 2 0] [] .ret)))
def pbalance_Of_1 : Fd := ⟨2, [.tmp 3], [], pbalance_Of_1b⟩
theorem pbalance_Of_1_ag : agreeF Tryz.prog Tryz.f112 pbalance_Of_1 = true := by kernel_rfl
theorem balance_Of_1_ok {x1 : T_balance_leg} {e2 : Int} {r : Bool} (h : balance_Of_1 x1 e2 = some r) : Contract Tryz.prog 112 [.pv (T_balance_leg.pv x1), .ptr (.ext 0) 0] [.box [.pv (.int .i32 e2)]] ⟨.pv (.bool r), [], [(some (.box [.pv (.int .i32 e2)]))]⟩ := by
 refine contract_fin hm Tryz.func112 pbalance_Of_1_ag (by kernel_rfl) ?_
 unfold balance_Of_1 at h
 refine W.seqOps (RunR.all (by kernel_rfl)) ?_
 refine W.seqOps (RunR.all (by kernel_rfl)) ?_
 refine W.keep rfl ?_
 cases h
 exact W.ret ((fin_ret (by kernel_rfl)))
def pbalance_sumr0 : List GOp := [⟨(some 4), none, .mov (.cst (.int .i64 0))⟩]
def pbalance_sumr1 : List GOp := [⟨(some 5), none, .mov (.cst (.int .i64 0))⟩]
def pbalance_sumr2 : List GOp := [⟨(some 8), none, .mov (.tmp 0)⟩, ⟨(some 9), none, .len false (.tmp 8)⟩, ⟨(some 10), none, .mov (.cst (.int .i64 0))⟩]
def pbalance_sumr3 : List GOp := [⟨(some 11), none, .bin false .lss (.tmp 10) (.tmp 9)⟩]
def pbalance_sumr4 : List GOp := [⟨(some 12), none, .idx 3 (.tmp 8) (.tmp 10)⟩, ⟨(some 13), none, .load true 3 (.tmp 12)⟩, ⟨(some 7), none, .alloc [.pv (.int .i32 0), .pv (.int .i32 0), .pv (.int .i64 0)]⟩, ⟨none, none, .store 3 (.tmp 7) (.tmp 13)⟩]
def pbalance_sumr5 : List GOp := [⟨(some 14), none, .mov (.tmp 1)⟩, ⟨(some 15), none, .load true 3 (.tmp 7)⟩, ⟨(some 16), none, .call 0 2 (.tmp 14) [(.tmp 15)] [] [.ext 0]⟩]
def pbalance_sumr6 : List GOp := [⟨(some 17), none, .mov (.tmp 5)⟩, ⟨(some 18), none, .fld 2 (.tmp 7)⟩, ⟨(some 19), none, .load false 1 (.tmp 18)⟩, ⟨(some 20), none, .bin false .add (.tmp 17) (.tmp 19)⟩, ⟨(some 5), none, .mov (.tmp 20)⟩]
def pbalance_sumr7 : List GOp := [⟨(some 21), none, .bin false .add (.tmp 10) (.cst (.int .i64 1))⟩, ⟨(some 10), none, .mov (.tmp 21)⟩]
def pbalance_suml8 : AC := (.keep [] [(1, false), (5, false), (8, false), (9, false), (10, false)] [(.ext 0, false)] [] [] (.seq (.ops pbalance_sumr3) (.seq (.cond (.tmp 11) .skip (.exit 0)) (.seq (.pass 1 (.seq (.ops pbalance_sumr4) (.seq (.ops pbalance_sumr5) (.cond (.tmp 16) (.ops pbalance_sumr6) .skip)))) (.keep [] [(1, false), (5, false), (8, false), (9, false), (10, false)] [(.ext 0, false)] [.loc 7 0] [] (.ops pbalance_sumr7))))))
def pbalance_sumr9 : List GOp := [⟨(some 22), none, .mov (.tmp 5)⟩, ⟨(some 4), none, .mov (.tmp 22)⟩]
def pbalance_sumb : AC := (.seq (.ops pbalance_sumr0) (.seq (.ops pbalance_sumr1) (.seq (.seq (.ops pbalance_sumr2) (.block 0 (.loop [1, 5, 8, 9, 10] [] pbalance_suml8))) (.seq (.keep [] [(5, false)] [(.ext 0, false)] [] [] (.ops pbalance_sumr9)) (.keep [] [(4, false)] [(.ext 0, false)] [] [] .ret)))))
def pbalance_sum : Fd := ⟨2, [.tmp 4], [], pbalance_sumb⟩
theorem pbalance_sum_ag : agreeF Tryz.prog Tryz.f111 pbalance_sum = true := by kernel_rfl
theorem balance_sum_ok {l1 : List T_balance_leg} {e2 : Int} {r : Int} (h : balance_sum l1 e2 = some r) : Contract Tryz.prog 111 [.pv (.slice (List.map T_balance_leg.pv l1)), .fn 112 [.ptr (.ext 0) 0]] [.box [.pv (.int .i32 e2)]] ⟨.pv (.int .i64 r), [], [(some (.box [.pv (.int .i32 e2)]))]⟩ := by
 refine contract_fin hm Tryz.func111 pbalance_sum_ag (by kernel_rfl) ?_
 unfold balance_sum at h
 refine W.seqOps (RunR.all (by kernel_rfl)) ?_
 refine W.seqOps (RunR.all (by kernel_rfl)) ?_
 refine W.assoc ?_
 refine W.seqOps (RunR.stat 1 (by kernel_rfl) (RunR.dyn (Step.lenT (f := T_balance_leg.pv) (l := l1) (by kernel_rfl)) (RunR.all (by kernel_rfl)))) ?_
 replace h := bindS h
 obtain ⟨j3, hj3, h⟩ := h
 refine W.join (j := j3) (fun p σ => σ.tidy [] [(5, false)] [(.ext 0, false)] [] [] = ⟨[(5, .pv (.int .i64 p))], [(.ext 0, .box [.pv (.int .i32 e2)])]⟩) ?_ (fun σj3 hsj3 => ?_)
 ·refine W.blockLoop (fun q σ => ((σ.forget [1, 5, 8, 9, 10]).killAll []).tidy [] [(1, false), (5, false), (8, false), (9, false), (10, false)] [(.ext 0, false)] [] [] = ⟨[(1, .fn 112 [.ptr (.ext 0) 0]), (5, .pv (.int .i64 q.1)), (8, .pv (.slice (List.map T_balance_leg.pv l1))), (9, .pv (.int .i64 (l1.length : Int))), (10, .pv (.int .i64 q.2))], [(.ext 0, .box [.pv (.int .i32 e2)])]⟩) hj3 ?_ ?_
  ·show _ = _
   kernel_rfl
  ·intro q σj3 oj3 hJj3 h
   obtain ⟨n4, x5⟩ := q
   refine W.keep hJj3 ?_
   refine W.seqOps (RunR.all (by kernel_rfl)) ?_
   refine W.seqCond (t := decide (x5 < (l1.length : Int))) (by kernel_rfl) h (fun hc h' => ?_) (fun hc h' => ?_)
   ·replace h := h'
    refine W.seqSkip ?_
    refine W.seqPass ?_
    refine W.assoc ?_
    replace h := bindS h
    obtain ⟨x6, hx6, h⟩ := h
    refine W.seqOps (RunR.dyn (Step.idxT (f := T_balance_leg.pv) (l := l1) (n := x5) (e := x6) (k := .i64) (by kernel_rfl) (by kernel_rfl) hx6 (by kernel_rfl)) (RunR.all (by kernel_rfl))) ?_
    refine W.assoc ?_
    replace h := bindS h
    obtain ⟨x7, hx7, h⟩ := h
    refine W.seqOps (RunR.stat 2 (by kernel_rfl) (RunR.cons (tab_cons (on := true) (fun _ => balance_Of_1_ok hx7) tab_nil) (Step.callG (g := 112) (caps := [.ptr (.ext 0) 0]) (v := .pv (.bool x7)) (ins := []) rfl (by kernel_rfl) (by kernel_rfl) (by kernel_rfl) (tab_hit (by kernel_rfl)) (by kernel_rfl) (by kernel_rfl)) ((.nil _)))) ?_
    replace h := bindS h
    obtain ⟨j8, hj8, h⟩ := h
    refine W.join (j := j8) (fun p σ => σ.tidy [] [(1, false), (5, false), (8, false), (9, false), (10, false)] [(.ext 0, false)] [.loc 7 0] [] = ⟨[(1, .fn 112 [.ptr (.ext 0) 0]), (5, .pv (.int .i64 p)), (8, .pv (.slice (List.map T_balance_leg.pv l1))), (9, .pv (.int .i64 (l1.length : Int))), (10, .pv (.int .i64 x5))], [(.ext 0, .box [.pv (.int .i32 e2)])]⟩) ?_ (fun σj8 hsj8 => ?_)
    ·replace h := hj8
     refine W.condI (t := x7) (by kernel_rfl) h (fun hc h' => ?_) (fun hc h' => ?_)
     ·replace h := h'
      refine W.ops (RunR.all (by kernel_rfl)) ?_
      cases h
      exact (normw (by (show _ = _); kernel_rfl))
     ·replace h := h'
      cases h
      exact W.skip ((normw (by (show _ = _); kernel_rfl)))
    ·refine W.keep hsj8 ?_
     refine W.ops (RunR.all (by kernel_rfl)) ?_
     cases h
     exact (outw_in (by (show _ = _); kernel_rfl))
   ·replace h := h'
    cases h
    exact W.seqExit ((outw_out exit_ne (bnorm_x (by (show _ = _); kernel_rfl))))
 ·refine W.seqKeep hsj3 ?_
  refine W.seqOps (RunR.all (by kernel_rfl)) ?_
  refine W.keep rfl ?_
  cases h
  exact W.ret ((fin_ret (by kernel_rfl)))
def pbalance_Ofr0 : List GOp := [⟨(some 7), none, .box (.tmp 3)⟩, ⟨(some 8), none, .mov (.cst (.int .i64 0))⟩, ⟨(some 9), none, .mov (.cst (.int .i64 0))⟩]
def pbalance_Ofr1 : List GOp := [⟨(some 13), none, .mov (.tmp 0)⟩, ⟨(some 14), none, .load false 1 (.tmp 7)⟩, ⟨(some 15), none, .load false 1 (.tmp 7)⟩, ⟨(some 16), none, .call 0 0 (.cst (.fn 109)) [(.tmp 13), (.tmp 14), (.tmp 15), .nils] [] []⟩, ⟨(some 10), none, .mov (.tmp 16)⟩]
def pbalance_Ofr2 : List GOp := [⟨(some 17), none, .mov (.tmp 10)⟩, ⟨(some 18), none, .bin false .neq (.tmp 17) (.cst (.int .i64 0))⟩]
def pbalance_Ofr3 : List GOp := [⟨(some 19), none, .mov (.tmp 10)⟩, ⟨(some 8), none, .mov (.cst (.int .i64 0))⟩, ⟨(some 9), none, .mov (.tmp 19)⟩]
def pbalance_Ofr4 : List GOp := [⟨(some 21), none, .mov (.tmp 0)⟩, ⟨(some 22), none, .mov (.tmp 1)⟩, ⟨(some 23), none, .mov (.tmp 2)⟩, ⟨(some 24), none, .call 0 0 (.cst (.fn 110)) [(.tmp 21), (.tmp 22), (.tmp 23)] [] []⟩, ⟨(some 20), none, .mov (.tmp 24)⟩, ⟨(some 25), none, .ext 0 (.tmp 20)⟩, ⟨(some 26), none, .ext 1 (.tmp 20)⟩, ⟨(some 11), none, .mov (.tmp 25)⟩, ⟨(some 12), none, .mov (.tmp 26)⟩]
def pbalance_Ofr5 : List GOp := [⟨(some 27), none, .mov (.tmp 11)⟩, ⟨(some 28), none, .mkfn 112 [(.tmp 7)]⟩, ⟨(some 29), none, .call 0 2 (.cst (.fn 111)) [(.tmp 27), (.tmp 28)] [] [.loc 7 0]⟩, ⟨(some 30), none, .mov (.tmp 12)⟩, ⟨(some 8), none, .mov (.tmp 29)⟩, ⟨(some 9), none, .mov (.tmp 30)⟩]
def pbalance_Ofb : AC := (.seq (.ops pbalance_Ofr0) (.seq (.seq (.ops pbalance_Ofr1) (.seq (.ops pbalance_Ofr2) (.cond (.tmp 18) (.seq (.ops pbalance_Ofr3) (.keep [] [(8, false), (9, false)] [] [.loc 7 0] [] .ret)) .skip))) (.seq (.ops pbalance_Ofr4) (.seq (.ops pbalance_Ofr5) (.keep [] [(8, false), (9, false)] [] [.loc 7 0] [] .ret)))))
def pbalance_Of : Fd := ⟨4, [.tmp 8, .tmp 9], [], pbalance_Ofb⟩
theorem pbalance_Of_ag : agreeF Tryz.prog Tryz.f67 pbalance_Of = true := by kernel_rfl
theorem balance_Of_ok {l1 : List T_api_Posting} {acc2 : Int} {cur3 : Int} {upto4 : Int} {r : Int × Int} (h : balance_Of l1 acc2 cur3 upto4 = some r) : Contract Tryz.prog 67 [.pv (.slice (List.map T_api_Posting.pv l1)), .pv (.int .i64 acc2), .pv (.int .i64 cur3), .pv (.int .i32 upto4)] [] ⟨.tup [.pv (.int .i64 r.1), .pv (.int .i64 r.2)], [], []⟩ := by
 refine contract_fin hm Tryz.func67 pbalance_Of_ag (by kernel_rfl) ?_
 unfold balance_Of at h
 refine W.seqOps (RunR.all (by kernel_rfl)) ?_
 refine W.assoc ?_
 replace h := bindS h
 obtain ⟨x5, hx5, h⟩ := h
 refine W.seqOps (RunR.stat 3 (by kernel_rfl) (RunR.cons (tab_cons (on := true) (fun _ => balance_may_ok hx5) tab_nil) (Step.call0 (g := 109) (caps := []) (v := .pv (.int .i64 x5)) (by kernel_rfl) (by kernel_rfl) (by kernel_rfl) (tab_hit (by kernel_rfl)) (by kernel_rfl)) (RunR.all (by kernel_rfl)))) ?_
 refine W.assoc ?_
 refine W.seqOps (RunR.all (by kernel_rfl)) ?_
 refine W.seqCond (t := (x5 != 0)) (by kernel_rfl) h (fun hc h' => ?_) (fun hc h' => ?_)
 ·replace h := h'
  refine W.assoc ?_
  refine W.seqOps (RunR.all (by kernel_rfl)) ?_
  refine W.seqKeep rfl ?_
  cases h
  exact W.seqRet ((fin_ret (by kernel_rfl)))
 ·replace h := h'
  refine W.seqSkip ?_
  replace h := bindS h
  obtain ⟨x6, hx6, h⟩ := h
  refine W.seqOps (RunR.stat 3 (by kernel_rfl) (RunR.cons (tab_cons (on := true) (fun _ => balance_legs_ok hx6) tab_nil) (Step.call0 (g := 110) (caps := []) (v := .tup [.pv (.slice (List.map T_balance_leg.pv x6.1)), .pv (.int .i64 x6.2)]) (by kernel_rfl) (by kernel_rfl) (by kernel_rfl) (tab_hit (by kernel_rfl)) (by kernel_rfl)) (RunR.all (by kernel_rfl)))) ?_
  replace h := bindS h
  obtain ⟨x7, hx7, h⟩ := h
  refine W.seqOps (RunR.stat 2 (by kernel_rfl) (RunR.cons (tab_cons (on := true) (fun _ => balance_sum_ok hx7) tab_nil) (Step.callG (g := 111) (caps := []) (v := .pv (.int .i64 x7)) (ins := []) rfl (by kernel_rfl) (by kernel_rfl) (by kernel_rfl) (tab_hit (by kernel_rfl)) (by kernel_rfl) (by kernel_rfl)) (RunR.all (by kernel_rfl)))) ?_
  refine W.keep rfl ?_
  cases h
  exact W.ret ((fin_ret (by kernel_rfl)))
def pavail_ask_1r0 : List GOp := [⟨(some 2), none, .box (.tmp 0)⟩, ⟨(some 3), none, .mov (.cst (.bool false))⟩]
def pavail_ask_1r1 : List GOp := [⟨(some 4), none, .fld 0 (.tmp 2)⟩, ⟨(some 5), none, .load false 1 (.tmp 4)⟩, ⟨(some 6), none, .load false 1 (.tmp 1)⟩, ⟨(some 7), none, .bin false .eql (.tmp 5) (.tmp 6)⟩, ⟨(some 3), none, .mov (.tmp 7)⟩]
def pavail_ask_1b : AC := (.seq (.ops pavail_ask_1r0) (.seq (.ops pavail_ask_1r1) (.keep [] [(3, false)] [(.ext 0, false)] [.loc 2 0] [] .ret)))
def pavail_ask_1 : Fd := ⟨2, [.tmp 3], [], pavail_ask_1b⟩
theorem pavail_ask_1_ag : agreeF Tryz.prog Tryz.f69 pavail_ask_1 = true := by kernel_rfl
theorem avail_ask_1_ok {x1 : T_api_Limit} {e2 : Int} {r : Bool} (h : avail_ask_1 x1 e2 = some r) : Contract Tryz.prog 69 [.pv (T_api_Limit.pv x1), .ptr (.ext 0) 0] [.box [.pv (.int .i64 e2)]] ⟨.pv (.bool r), [], [(some (.box [.pv (.int .i64 e2)]))]⟩ := by
 refine contract_fin hm Tryz.func69 pavail_ask_1_ag (by kernel_rfl) ?_
 unfold avail_ask_1 at h
 refine W.seqOps (RunR.all (by kernel_rfl)) ?_
 refine W.seqOps (RunR.all (by kernel_rfl)) ?_
 refine W.keep rfl ?_
 cases h
 exact W.ret ((fin_ret (by kernel_rfl)))
def pslices_IndexFunc_Limit_Limitr0 : List GOp := [⟨(some 4), none, .mov (.cst (.int .i64 0))⟩]
def pslices_IndexFunc_Limit_Limitr1 : List GOp := [⟨(some 6), none, .mov (.tmp 0)⟩, ⟨(some 7), none, .len false (.tmp 6)⟩, ⟨(some 8), none, .mov (.cst (.int .i64 0))⟩]
def pslices_IndexFunc_Limit_Limitr2 : List GOp := [⟨(some 9), none, .bin false .lss (.tmp 8) (.tmp 7)⟩]
def pslices_IndexFunc_Limit_Limitr3 : List GOp := [⟨(some 10), none, .mov (.tmp 8)⟩, ⟨(some 5), none, .mov (.tmp 10)⟩]
def pslices_IndexFunc_Limit_Limitr4 : List GOp := [⟨(some 11), none, .mov (.tmp 1)⟩, ⟨(some 12), none, .mov (.tmp 0)⟩, ⟨(some 13), none, .mov (.tmp 5)⟩, ⟨(some 14), none, .idx 2 (.tmp 12) (.tmp 13)⟩, ⟨(some 15), none, .load true 2 (.tmp 14)⟩, ⟨(some 16), none, .call 0 2 (.tmp 11) [(.tmp 15)] [] [.ext 0]⟩]
def pslices_IndexFunc_Limit_Limitr5 : List GOp := [⟨(some 17), none, .mov (.tmp 5)⟩, ⟨(some 4), none, .mov (.tmp 17)⟩]
def pslices_IndexFunc_Limit_Limitr6 : List GOp := [⟨(some 18), none, .bin false .add (.tmp 8) (.cst (.int .i64 1))⟩, ⟨(some 8), none, .mov (.tmp 18)⟩]
def pslices_IndexFunc_Limit_Limitl7 : AC := (.keep [] [(0, false), (1, false), (7, false), (8, false)] [(.ext 0, false)] [] [] (.seq (.ops pslices_IndexFunc_Limit_Limitr2) (.seq (.cond (.tmp 9) .skip (.exit 0)) (.seq (.pass 1 (.seq (.ops pslices_IndexFunc_Limit_Limitr3) (.seq (.ops pslices_IndexFunc_Limit_Limitr4) (.cond (.tmp 16) (.seq (.ops pslices_IndexFunc_Limit_Limitr5) (.keep [] [(4, false)] [(.ext 0, false)] [] [] .ret)) .skip)))) (.ops pslices_IndexFunc_Limit_Limitr6)))))
def pslices_IndexFunc_Limit_Limitr8 : List GOp := [⟨(some 4), none, .mov (.cst (.int .i64 (-1)))⟩]
def pslices_IndexFunc_Limit_Limitb : AC := (.seq (.ops pslices_IndexFunc_Limit_Limitr0) (.seq (.seq (.ops pslices_IndexFunc_Limit_Limitr1) (.block 0 (.loop [0, 1, 7, 8] [] pslices_IndexFunc_Limit_Limitl7))) (.seq (.keep [] [] [(.ext 0, false)] [] [] (.ops pslices_IndexFunc_Limit_Limitr8)) (.keep [] [(4, false)] [(.ext 0, false)] [] [] .ret))))
def pslices_IndexFunc_Limit_Limit : Fd := ⟨2, [.tmp 4], [], pslices_IndexFunc_Limit_Limitb⟩
theorem pslices_IndexFunc_Limit_Limit_ag : agreeF Tryz.prog Tryz.f68 pslices_IndexFunc_Limit_Limit = true := by kernel_rfl
theorem slices_IndexFunc_Limit_Limit_ok {s1 : List T_api_Limit} {e2 : Int} {r : Int} (h : slices_IndexFunc_Limit_Limit s1 e2 = some r) : Contract Tryz.prog 68 [.pv (.slice (List.map T_api_Limit.pv s1)), .fn 69 [.ptr (.ext 0) 0]] [.box [.pv (.int .i64 e2)]] ⟨.pv (.int .i64 r), [], [(some (.box [.pv (.int .i64 e2)]))]⟩ := by
 refine contract_fin hm Tryz.func68 pslices_IndexFunc_Limit_Limit_ag (by kernel_rfl) ?_
 unfold slices_IndexFunc_Limit_Limit at h
 refine W.seqOps (RunR.all (by kernel_rfl)) ?_
 refine W.assoc ?_
 refine W.seqOps (RunR.stat 1 (by kernel_rfl) (RunR.dyn (Step.lenT (f := T_api_Limit.pv) (l := s1) (by kernel_rfl)) (RunR.all (by kernel_rfl)))) ?_
 replace h := bindS h
 obtain ⟨j3, hj3, h⟩ := h
 refine W.joinOut (j := j3) (o := r) (fun p σ => σ.tidy [] [] [(.ext 0, false)] [] [] = ⟨[], [(.ext 0, .box [.pv (.int .i64 e2)])]⟩) ?_ (fun p σj3 hp hsj3 => ?_) (fun p hp => ?_)
 ·refine W.blockLoopO (fun q σ => ((σ.forget [0, 1, 7, 8]).killAll []).tidy [] [(0, false), (1, false), (7, false), (8, false)] [(.ext 0, false)] [] [] = ⟨[(0, .pv (.slice (List.map T_api_Limit.pv s1))), (1, .fn 69 [.ptr (.ext 0) 0]), (7, .pv (.int .i64 (s1.length : Int))), (8, .pv (.int .i64 q))], [(.ext 0, .box [.pv (.int .i64 e2)])]⟩) hj3 ?_ ?_
  ·show _ = _
   kernel_rfl
  ·intro x4 σj3 oj3 hJj3 h
   refine W.keep hJj3 ?_
   refine W.seqOps (RunR.all (by kernel_rfl)) ?_
   refine W.seqCond (t := decide (x4 < (s1.length : Int))) (by kernel_rfl) h (fun hc h' => ?_) (fun hc h' => ?_)
   ·replace h := h'
    refine W.seqSkip ?_
    refine W.seqPass ?_
    refine W.assoc ?_
    refine W.seqOps (RunR.all (by kernel_rfl)) ?_
    refine W.assoc ?_
    replace h := bindS h
    obtain ⟨x5, hx5, h⟩ := h
    replace h := bindS h
    obtain ⟨x6, hx6, h⟩ := h
    refine W.seqOps (RunR.stat 3 (by kernel_rfl) (RunR.dyn (Step.idxT (f := T_api_Limit.pv) (l := s1) (n := x4) (e := x5) (k := .i64) (by kernel_rfl) (by kernel_rfl) hx5 (by kernel_rfl)) (RunR.stat 1 (by kernel_rfl) (RunR.cons (tab_cons (on := true) (fun _ => avail_ask_1_ok hx6) tab_nil) (Step.callG (g := 69) (caps := [.ptr (.ext 0) 0]) (v := .pv (.bool x6)) (ins := []) rfl (by kernel_rfl) (by kernel_rfl) (by kernel_rfl) (tab_hit (by kernel_rfl)) (by kernel_rfl) (by kernel_rfl)) ((.nil _)))))) ?_
    refine W.seqCond (t := x6) (by kernel_rfl) h (fun hc h' => ?_) (fun hc h' => ?_)
    ·replace h := h'
     refine W.assoc ?_
     refine W.seqOps (RunR.all (by kernel_rfl)) ?_
     refine W.seqKeep rfl ?_
     cases h
     exact W.seqRet ((outw_out ret_ne (bout_o ret_ne ret_ne' (fun e => by subst e; exact (fin_ret (by kernel_rfl))))))
    ·replace h := h'
     refine W.seqSkip ?_
     refine W.ops (RunR.all (by kernel_rfl)) ?_
     cases h
     exact (outw_in (by (show _ = _); kernel_rfl))
   ·replace h := h'
    cases h
    exact W.seqExit ((outw_out exit_ne (bout_x (by (show _ = _); kernel_rfl))))
 ·subst hp
  obtain ⟨⟩ := p
  refine W.seqKeep hsj3 ?_
  refine W.seqOps (RunR.all (by kernel_rfl)) ?_
  refine W.keep rfl ?_
  cases h
  exact W.ret ((fin_ret (by kernel_rfl)))
 ·subst hp
  exact Option.some.inj h
def pavail_askr0 : List GOp := [⟨(some 3), none, .box (.tmp 0)⟩, ⟨(some 4), none, .box (.tmp 1)⟩, ⟨(some 6), none, .alloc [.pv (.int .i64 0), .pv (.int .i64 0), .pv (.int .i64 0)]⟩, ⟨(some 7), none, .mov (.cst .nilI)⟩]
def pavail_askr1 : List GOp := [⟨(some 17), none, .fld 0 (.tmp 3)⟩, ⟨(some 18), none, .load true 2 (.tmp 17)⟩, ⟨(some 19), none, .load false 1 (.tmp 4)⟩, ⟨(some 20), none, .call 0 0 (.cst (.fn 64)) [(.tmp 18), (.tmp 19)] [] []⟩, ⟨(some 16), none, .mov (.tmp 20)⟩, ⟨(some 21), none, .ext 0 (.tmp 16)⟩, ⟨(some 22), none, .ext 1 (.tmp 16)⟩, ⟨(some 8), none, .alloc [.pv (.int .i64 0), .pv (.int .i64 0), .pv (.int .i64 0), .pv (.int .i64 0), .pv (.int .i64 0), .pv (.int .i64 0), .pv (.int .i32 0), .pv (.int .i32 0)]⟩, ⟨none, none, .store 8 (.tmp 8) (.tmp 21)⟩, ⟨(some 9), none, .mov (.tmp 22)⟩]
def pavail_askr2 : List GOp := [⟨(some 23), none, .mov (.tmp 9)⟩, ⟨(some 24), none, .call 0 0 (.cst (.fn 65)) [(.tmp 23)] [] []⟩, ⟨(some 10), none, .mov (.tmp 24)⟩]
def pavail_askr3 : List GOp := [⟨(some 25), none, .mov (.tmp 10)⟩, ⟨(some 26), none, .isNil true (.tmp 25)⟩]
def pavail_askr4 : List GOp := [⟨(some 27), none, .build [.pv (.int .i64 0), .pv (.int .i64 0), .pv (.int .i64 0)] []⟩, ⟨(some 28), none, .mov (.tmp 10)⟩, ⟨none, none, .store 3 (.tmp 6) (.tmp 27)⟩, ⟨(some 7), none, .mov (.tmp 28)⟩]
def pavail_askr5 : List GOp := [⟨(some 29), none, .fld 1 (.tmp 8)⟩, ⟨(some 30), none, .load false 1 (.tmp 29)⟩, ⟨(some 31), none, .bin false .neq (.tmp 30) (.cst (.int .i64 1))⟩]
def pavail_askr6 : List GOp := [⟨(some 32), none, .build [.pv (.int .i64 0), .pv (.int .i64 0), .pv (.int .i64 0)] []⟩, ⟨(some 33), none, .build [.pv (.int .i64 0)] [(0, 1, (.cst (.int .i64 13)))]⟩, ⟨(some 34), none, .mkI 113 (.tmp 33)⟩, ⟨none, none, .store 3 (.tmp 6) (.tmp 32)⟩, ⟨(some 7), none, .mov (.tmp 34)⟩]
def pavail_askr7 : List GOp := [⟨(some 36), none, .fld 0 (.tmp 3)⟩, ⟨(some 37), none, .load true 2 (.tmp 36)⟩, ⟨(some 38), none, .load false 1 (.tmp 4)⟩, ⟨(some 39), none, .mov (.tmp 2)⟩, ⟨(some 40), none, .call 0 0 (.cst (.fn 66)) [(.tmp 37), (.tmp 38), (.tmp 39)] [] []⟩, ⟨(some 35), none, .mov (.tmp 40)⟩, ⟨(some 41), none, .ext 0 (.tmp 35)⟩, ⟨(some 42), none, .ext 1 (.tmp 35)⟩, ⟨(some 11), none, .mov (.tmp 41)⟩, ⟨(some 9), none, .mov (.tmp 42)⟩]
def pavail_askr8 : List GOp := [⟨(some 43), none, .mov (.tmp 9)⟩, ⟨(some 44), none, .call 0 0 (.cst (.fn 65)) [(.tmp 43)] [] []⟩, ⟨(some 12), none, .mov (.tmp 44)⟩]
def pavail_askr9 : List GOp := [⟨(some 45), none, .mov (.tmp 12)⟩, ⟨(some 46), none, .isNil true (.tmp 45)⟩]
def pavail_askr10 : List GOp := [⟨(some 47), none, .build [.pv (.int .i64 0), .pv (.int .i64 0), .pv (.int .i64 0)] []⟩, ⟨(some 48), none, .mov (.tmp 12)⟩, ⟨none, none, .store 3 (.tmp 6) (.tmp 47)⟩, ⟨(some 7), none, .mov (.tmp 48)⟩]
def pavail_askr11 : List GOp := [⟨(some 49), none, .mov (.tmp 11)⟩, ⟨(some 50), none, .un .not (.tmp 49)⟩]
def pavail_askr12 : List GOp := [⟨(some 51), none, .build [.pv (.int .i64 0), .pv (.int .i64 0), .pv (.int .i64 0)] []⟩, ⟨(some 52), none, .build [.pv (.int .i64 0)] [(0, 1, (.cst (.int .i64 16)))]⟩, ⟨(some 53), none, .mkI 113 (.tmp 52)⟩, ⟨none, none, .store 3 (.tmp 6) (.tmp 51)⟩, ⟨(some 7), none, .mov (.tmp 53)⟩]
def pavail_askr13 : List GOp := [⟨(some 55), none, .fld 2 (.tmp 3)⟩, ⟨(some 56), none, .load false 1 (.tmp 55)⟩, ⟨(some 57), none, .load false 1 (.tmp 4)⟩, ⟨(some 58), none, .fld 2 (.tmp 8)⟩, ⟨(some 59), none, .load false 1 (.tmp 58)⟩, ⟨(some 60), none, .mov (.tmp 2)⟩, ⟨(some 61), none, .call 0 0 (.cst (.fn 67)) [(.tmp 56), (.tmp 57), (.tmp 59), (.tmp 60)] [] []⟩, ⟨(some 54), none, .mov (.tmp 61)⟩, ⟨(some 62), none, .ext 0 (.tmp 54)⟩, ⟨(some 63), none, .ext 1 (.tmp 54)⟩, ⟨(some 13), none, .mov (.tmp 62)⟩, ⟨(some 9), none, .mov (.tmp 63)⟩]
def pavail_askr14 : List GOp := [⟨(some 64), none, .fld 2 (.tmp 8)⟩, ⟨(some 65), none, .load false 1 (.tmp 64)⟩, ⟨(some 66), none, .mov (.tmp 13)⟩, ⟨(some 67), none, .un .neg (.tmp 66)⟩, ⟨(some 68), none, .build [.pv (.int .i64 0), .pv (.int .i64 0), .pv (.int .i64 0)] [(0, 1, (.tmp 65)), (1, 1, (.tmp 67))]⟩, ⟨(some 14), none, .alloc [.pv (.int .i64 0), .pv (.int .i64 0), .pv (.int .i64 0)]⟩, ⟨none, none, .store 3 (.tmp 14) (.tmp 68)⟩]
def pavail_askr15 : List GOp := [⟨(some 69), none, .fld 4 (.tmp 3)⟩, ⟨(some 70), none, .load false 1 (.tmp 69)⟩, ⟨(some 71), none, .mkfn 69 [(.tmp 4)]⟩, ⟨(some 72), none, .call 0 2 (.cst (.fn 68)) [(.tmp 70), (.tmp 71)] [] [.loc 4 0]⟩, ⟨(some 15), none, .mov (.tmp 72)⟩]
def pavail_askr16 : List GOp := [⟨(some 73), none, .mov (.tmp 15)⟩, ⟨(some 74), none, .bin false .geq (.tmp 73) (.cst (.int .i64 0))⟩]
def pavail_askr17 : List GOp := [⟨(some 75), none, .fld 4 (.tmp 3)⟩, ⟨(some 76), none, .load false 1 (.tmp 75)⟩, ⟨(some 77), none, .mov (.tmp 15)⟩, ⟨(some 78), none, .idx 2 (.tmp 76) (.tmp 77)⟩, ⟨(some 79), none, .fld 1 (.tmp 78)⟩, ⟨(some 80), none, .load false 1 (.tmp 79)⟩, ⟨(some 81), none, .fld 2 (.tmp 14)⟩, ⟨none, none, .store 1 (.tmp 81) (.tmp 80)⟩]
def pavail_askr18 : List GOp := [⟨(some 82), none, .load true 3 (.tmp 14)⟩, ⟨(some 83), none, .mov (.tmp 9)⟩, ⟨(some 84), none, .call 0 0 (.cst (.fn 65)) [(.tmp 83)] [] []⟩, ⟨none, none, .store 3 (.tmp 6) (.tmp 82)⟩, ⟨(some 7), none, .mov (.tmp 84)⟩]
def pavail_askb : AC := (.seq (.ops pavail_askr0) (.seq (.ops pavail_askr1) (.seq (.seq (.ops pavail_askr2) (.seq (.ops pavail_askr3) (.cond (.tmp 26) (.seq (.ops pavail_askr4) (.keep [] [(6, false), (7, false)] [(.loc 6 0, false)] [.loc 14 0, .loc 3 0, .loc 4 0, .loc 8 0] [] .ret)) .skip))) (.seq (.seq (.ops pavail_askr5) (.cond (.tmp 31) (.seq (.ops pavail_askr6) (.keep [] [(6, false), (7, false)] [(.loc 6 0, false)] [.loc 14 0, .loc 3 0, .loc 4 0, .loc 8 0] [] .ret)) .skip)) (.seq (.ops pavail_askr7) (.seq (.seq (.ops pavail_askr8) (.seq (.ops pavail_askr9) (.cond (.tmp 46) (.seq (.ops pavail_askr10) (.keep [] [(6, false), (7, false)] [(.loc 6 0, false)] [.loc 14 0, .loc 3 0, .loc 4 0, .loc 8 0] [] .ret)) .skip))) (.seq (.seq (.ops pavail_askr11) (.cond (.tmp 50) (.seq (.ops pavail_askr12) (.keep [] [(6, false), (7, false)] [(.loc 6 0, false)] [.loc 14 0, .loc 3 0, .loc 4 0, .loc 8 0] [] .ret)) .skip)) (.seq (.ops pavail_askr13) (.seq (.ops pavail_askr14) (.seq (.seq (.ops pavail_askr15) (.seq (.ops pavail_askr16) (.cond (.tmp 74) (.ops pavail_askr17) .skip))) (.seq (.keep [] [(6, false), (9, false), (14, false)] [(.loc 14 0, false), (.loc 6 0, false)] [.loc 3 0, .loc 4 0, .loc 8 0] [] (.draw [] pavail_askr18)) (.keep [] [(6, false), (7, false)] [(.loc 6 0, false)] [.loc 14 0, .loc 3 0, .loc 4 0, .loc 8 0] [] .ret))))))))))))
def pavail_ask : Fd := ⟨3, [.cell 6 true 3, .tmp 7], [], pavail_askb⟩
theorem pavail_ask_ag : agreeF Tryz.prog Tryz.f28 pavail_ask = true := by kernel_rfl
theorem avail_ask_ok {t1 : T_api_Till} {acc2 : Int} {now3 : Int} {r : T_avail_account × (Option Int)} (h : avail_ask t1 acc2 now3 = some r) : Contract Tryz.prog 28 [.pv (T_api_Till.pv t1), .pv (.int .i64 acc2), .pv (.int .i32 now3)] [] ⟨.tup [.pv (T_avail_account.pv r.1), .pv (eErr 113 r.2)], [], []⟩ := by
 refine contract_fin hm Tryz.func28 pavail_ask_ag (by kernel_rfl) ?_
 unfold avail_ask at h
 refine W.seqOps (RunR.all (by kernel_rfl)) ?_
 replace h := bindS h
 obtain ⟨x4, hx4, h⟩ := h
 refine W.seqOps (RunR.stat 3 (by kernel_rfl) (RunR.cons (tab_cons (on := true) (fun _ => chart_Find_ok hx4) tab_nil) (Step.call0 (g := 64) (caps := []) (v := .tup [.pv (T_api_Record.pv x4.1), .pv (.int .i64 x4.2)]) (by kernel_rfl) (by kernel_rfl) (by kernel_rfl) (tab_hit (by kernel_rfl)) (by kernel_rfl)) (RunR.all (by kernel_rfl)))) ?_
 refine W.assoc ?_
 replace h := bindS h
 obtain ⟨x5, hx5, h⟩ := h
 refine W.seqOps (RunR.stat 1 (by kernel_rfl) (RunR.cons (tab_cons (on := true) (fun _ => avail_check_ok hx5) tab_nil) (Step.call0 (g := 65) (caps := []) (v := .pv (eErr 113 x5)) (by kernel_rfl) (by kernel_rfl) (by kernel_rfl) (tab_hit (by kernel_rfl)) (by kernel_rfl)) (RunR.all (by kernel_rfl)))) ?_
 refine W.assoc ?_
 refine W.seqOps (RunR.stat 1 (by kernel_rfl) (RunR.dyn (Step.isNilT (t := 113) (e := x5) (by kernel_rfl)) ((.nil _)))) ?_
 refine W.seqCond (t := Option.isSome x5) (by kernel_rfl) h (fun hc h' => ?_) (fun hc h' => ?_)
 ·replace h := h'
  refine W.assoc ?_
  refine W.seqOps (RunR.all (by kernel_rfl)) ?_
  refine W.seqKeep rfl ?_
  cases h
  exact W.seqRet ((fin_ret (by kernel_rfl)))
 ·replace h := h'
  refine W.seqSkip ?_
  refine W.assoc ?_
  refine W.seqOps (RunR.all (by kernel_rfl)) ?_
  refine W.seqCond (t := (x4.1.f_Kind != 1)) (by kernel_rfl) h (fun hc h' => ?_) (fun hc h' => ?_)
  ·replace h := h'
   refine W.assoc ?_
   refine W.seqOps (RunR.all (by kernel_rfl)) ?_
   refine W.seqKeep rfl ?_
   cases h
   exact W.seqRet ((fin_ret (by kernel_rfl)))
  ·replace h := h'
   refine W.seqSkip ?_
   replace h := bindS h
   obtain ⟨x6, hx6, h⟩ := h
   refine W.seqOps (RunR.stat 4 (by kernel_rfl) (RunR.cons (tab_cons (on := true) (fun _ => chart_Is_ok hx6) tab_nil) (Step.call0 (g := 66) (caps := []) (v := .tup [.pv (.bool x6.1), .pv (.int .i64 x6.2)]) (by kernel_rfl) (by kernel_rfl) (by kernel_rfl) (tab_hit (by kernel_rfl)) (by kernel_rfl)) (RunR.all (by kernel_rfl)))) ?_
   refine W.assoc ?_
   replace h := bindS h
   obtain ⟨x7, hx7, h⟩ := h
   refine W.seqOps (RunR.stat 1 (by kernel_rfl) (RunR.cons (tab_cons (on := true) (fun _ => avail_check_ok hx7) tab_nil) (Step.call0 (g := 65) (caps := []) (v := .pv (eErr 113 x7)) (by kernel_rfl) (by kernel_rfl) (by kernel_rfl) (tab_hit (by kernel_rfl)) (by kernel_rfl)) (RunR.all (by kernel_rfl)))) ?_
   refine W.assoc ?_
   refine W.seqOps (RunR.stat 1 (by kernel_rfl) (RunR.dyn (Step.isNilT (t := 113) (e := x7) (by kernel_rfl)) ((.nil _)))) ?_
   refine W.seqCond (t := Option.isSome x7) (by kernel_rfl) h (fun hc h' => ?_) (fun hc h' => ?_)
   ·replace h := h'
    refine W.assoc ?_
    refine W.seqOps (RunR.all (by kernel_rfl)) ?_
    refine W.seqKeep rfl ?_
    cases h
    exact W.seqRet ((fin_ret (by kernel_rfl)))
   ·replace h := h'
    refine W.seqSkip ?_
    refine W.assoc ?_
    refine W.seqOps (RunR.all (by kernel_rfl)) ?_
    refine W.seqCond (t := !x6.1) (by kernel_rfl) h (fun hc h' => ?_) (fun hc h' => ?_)
    ·replace h := h'
     refine W.assoc ?_
     refine W.seqOps (RunR.all (by kernel_rfl)) ?_
     refine W.seqKeep rfl ?_
     cases h
     exact W.seqRet ((fin_ret (by kernel_rfl)))
    ·replace h := h'
     refine W.seqSkip ?_
     replace h := bindS h
     obtain ⟨x8, hx8, h⟩ := h
     refine W.seqOps (RunR.stat 6 (by kernel_rfl) (RunR.cons (tab_cons (on := true) (fun _ => balance_Of_ok hx8) tab_nil) (Step.call0 (g := 67) (caps := []) (v := .tup [.pv (.int .i64 x8.1), .pv (.int .i64 x8.2)]) (by kernel_rfl) (by kernel_rfl) (by kernel_rfl) (tab_hit (by kernel_rfl)) (by kernel_rfl)) (RunR.all (by kernel_rfl)))) ?_
     refine W.seqOps (RunR.all (by kernel_rfl)) ?_
     refine W.assoc ?_
     replace h := bindS h
     obtain ⟨x9, hx9, h⟩ := h
     refine W.seqOps (RunR.stat 3 (by kernel_rfl) (RunR.cons (tab_cons (on := true) (fun _ => slices_IndexFunc_Limit_Limit_ok hx9) tab_nil) (Step.callG (g := 68) (caps := []) (v := .pv (.int .i64 x9)) (ins := []) rfl (by kernel_rfl) (by kernel_rfl) (by kernel_rfl) (tab_hit (by kernel_rfl)) (by kernel_rfl) (by kernel_rfl)) (RunR.all (by kernel_rfl)))) ?_
     refine W.assoc ?_
     refine W.seqOps (RunR.all (by kernel_rfl)) ?_
     replace h := bindS h
     obtain ⟨j10, hj10, h⟩ := h
     refine W.join (j := j10) (fun p σ => σ.tidy [] [(6, false), (9, false), (14, false)] [(.loc 14 0, false), (.loc 6 0, false)] [.loc 3 0, .loc 4 0, .loc 8 0] [] = ⟨[(6, .ptr (.loc 6 0) 0), (9, .pv (.int .i64 x8.2)), (14, .ptr (.loc 14 0) 0)], [(.loc 14 0, .box [.pv (.int .i64 x4.1.f_Cur), .pv (.int .i64 (IntKind.wrap .i64 (0 - x8.1))), .pv (.int .i64 p)]), (.loc 6 0, .box [.pv (.int .i64 0), .pv (.int .i64 0), .pv (.int .i64 0)])]⟩) ?_ (fun σj10 hsj10 => ?_)
     ·replace h := hj10
      refine W.condI (t := decide (x9 ≥ 0)) (by kernel_rfl) h (fun hc h' => ?_) (fun hc h' => ?_)
      ·replace h := h'
       replace h := bindS h
       obtain ⟨x11, hx11, h⟩ := h
       refine W.ops (RunR.stat 3 (by kernel_rfl) (RunR.dyn (Step.idxT (f := T_api_Limit.pv) (l := t1.f_Limits) (n := x9) (e := x11) (k := .i64) (by kernel_rfl) (by kernel_rfl) hx11 (by kernel_rfl)) (RunR.all (by kernel_rfl)))) ?_
       cases h
       exact (normw (by (show _ = _); kernel_rfl))
      ·replace h := h'
       cases h
       exact W.skip ((normw (by (show _ = _); kernel_rfl)))
     ·refine W.seqKeep hsj10 ?_
      replace h := bindS h
      obtain ⟨x13, hx13, h⟩ := h
      refine W.seqDraw (tab_cons (on := true) (fun _ => avail_check_ok hx13) tab_nil) (Run.stat 2 (by kernel_rfl) (Run.dyn (Step.call0 (g := 65) (caps := []) (v := .pv (eErr 113 x13)) (by kernel_rfl) (by kernel_rfl) (by kernel_rfl) (tab_hit (by kernel_rfl)) (by kernel_rfl)) (Run.all (by kernel_rfl)))) ?_
      refine W.keep rfl ?_
      cases h
      exact W.ret ((fin_ret (by kernel_rfl)))
theorem avail_whyOf_ok {e : Option Int} {r : Int} (h : avail_whyOf e = some r) : Contract Tryz.prog 29 [.pv (eErr 113 e)] [] ⟨.pv (.int .i64 r), [], []⟩ := why_contract (Option.some.inj h).symm
def pavail_Fundsr0 : List GOp := [⟨(some 3), none, .box (.tmp 0)⟩, ⟨(some 6), none, .mov (.cst (.int .i64 0))⟩, ⟨(some 7), none, .mov (.cst (.int .i64 0))⟩]
def pavail_Fundsr1 : List GOp := [⟨(some 10), none, .load true 5 (.tmp 3)⟩, ⟨(some 11), none, .call 0 0 (.cst (.fn 11)) [(.tmp 10)] [] []⟩, ⟨(some 12), none, .un .not (.tmp 11)⟩]
def pavail_Fundsr2 : List GOp := [⟨(some 6), none, .mov (.cst (.int .i64 0))⟩, ⟨(some 7), none, .mov (.cst (.int .i64 1))⟩]
def pavail_Fundsr3 : List GOp := [⟨(some 14), none, .load true 5 (.tmp 3)⟩, ⟨(some 15), none, .mov (.tmp 1)⟩, ⟨(some 16), none, .mov (.tmp 2)⟩, ⟨(some 17), none, .call 0 0 (.cst (.fn 28)) [(.tmp 14), (.tmp 15), (.tmp 16)] [] []⟩, ⟨(some 13), none, .mov (.tmp 17)⟩, ⟨(some 18), none, .ext 0 (.tmp 13)⟩, ⟨(some 19), none, .ext 1 (.tmp 13)⟩, ⟨(some 8), none, .alloc [.pv (.int .i64 0), .pv (.int .i64 0), .pv (.int .i64 0)]⟩, ⟨none, none, .store 3 (.tmp 8) (.tmp 18)⟩, ⟨(some 9), none, .mov (.tmp 19)⟩]
def pavail_Fundsr4 : List GOp := [⟨(some 20), none, .mov (.tmp 9)⟩, ⟨(some 21), none, .isNil true (.tmp 20)⟩]
def pavail_Fundsr5 : List GOp := [⟨(some 22), none, .mov (.tmp 9)⟩, ⟨(some 23), none, .call 0 0 (.cst (.fn 29)) [(.tmp 22)] [] []⟩, ⟨(some 6), none, .mov (.cst (.int .i64 0))⟩, ⟨(some 7), none, .mov (.tmp 23)⟩]
def pavail_Fundsr6 : List GOp := [⟨(some 24), none, .fld 1 (.tmp 8)⟩, ⟨(some 25), none, .load false 1 (.tmp 24)⟩, ⟨(some 6), none, .mov (.tmp 25)⟩, ⟨(some 7), none, .mov (.cst (.int .i64 0))⟩]
def pavail_Fundsb : AC := (.seq (.ops pavail_Fundsr0) (.seq (.seq (.ops pavail_Fundsr1) (.cond (.tmp 12) (.seq (.ops pavail_Fundsr2) (.keep [] [(6, false), (7, false)] [] [.loc 3 0, .loc 8 0] [] .ret)) .skip)) (.seq (.ops pavail_Fundsr3) (.seq (.seq (.ops pavail_Fundsr4) (.cond (.tmp 21) (.seq (.ops pavail_Fundsr5) (.keep [] [(6, false), (7, false)] [] [.loc 3 0, .loc 8 0] [] .ret)) .skip)) (.seq (.ops pavail_Fundsr6) (.keep [] [(6, false), (7, false)] [] [.loc 3 0, .loc 8 0] [] .ret))))))
def pavail_Funds : Fd := ⟨3, [.tmp 6, .tmp 7], [], pavail_Fundsb⟩
theorem pavail_Funds_ag : agreeF Tryz.prog Tryz.f8 pavail_Funds = true := by kernel_rfl
theorem avail_Funds_ok {t1 : T_api_Till} {acc2 : Int} {now3 : Int} {r : Int × Int} (h : avail_Funds t1 acc2 now3 = some r) : Contract Tryz.prog 8 [.pv (T_api_Till.pv t1), .pv (.int .i64 acc2), .pv (.int .i32 now3)] [] ⟨.tup [.pv (.int .i64 r.1), .pv (.int .i64 r.2)], [], []⟩ := by
 refine contract_fin hm Tryz.func8 pavail_Funds_ag (by kernel_rfl) ?_
 unfold avail_Funds at h
 refine W.seqOps (RunR.all (by kernel_rfl)) ?_
 refine W.assoc ?_
 replace h := bindS h
 obtain ⟨x4, hx4, h⟩ := h
 refine W.seqOps (RunR.stat 1 (by kernel_rfl) (RunR.cons (tab_cons (on := true) (fun _ => avail_Right_ok hx4) tab_nil) (Step.call0 (g := 11) (caps := []) (v := .pv (.bool x4)) (by kernel_rfl) (by kernel_rfl) (by kernel_rfl) (tab_hit (by kernel_rfl)) (by kernel_rfl)) (RunR.all (by kernel_rfl)))) ?_
 refine W.seqCond (t := !x4) (by kernel_rfl) h (fun hc h' => ?_) (fun hc h' => ?_)
 ·replace h := h'
  refine W.assoc ?_
  refine W.seqOps (RunR.all (by kernel_rfl)) ?_
  refine W.seqKeep rfl ?_
  cases h
  exact W.seqRet ((fin_ret (by kernel_rfl)))
 ·replace h := h'
  refine W.seqSkip ?_
  replace h := bindS h
  obtain ⟨x5, hx5, h⟩ := h
  refine W.seqOps (RunR.stat 3 (by kernel_rfl) (RunR.cons (tab_cons (on := true) (fun _ => avail_ask_ok hx5) tab_nil) (Step.call0 (g := 28) (caps := []) (v := .tup [.pv (T_avail_account.pv x5.1), .pv (eErr 113 x5.2)]) (by kernel_rfl) (by kernel_rfl) (by kernel_rfl) (tab_hit (by kernel_rfl)) (by kernel_rfl)) (RunR.all (by kernel_rfl)))) ?_
  refine W.assoc ?_
  refine W.seqOps (RunR.stat 1 (by kernel_rfl) (RunR.dyn (Step.isNilT (t := 113) (e := x5.2) (by kernel_rfl)) ((.nil _)))) ?_
  refine W.seqCond (t := Option.isSome x5.2) (by kernel_rfl) h (fun hc h' => ?_) (fun hc h' => ?_)
  ·replace h := h'
   refine W.assoc ?_
   replace h := bindS h
   obtain ⟨x6, hx6, h⟩ := h
   refine W.seqOps (RunR.stat 1 (by kernel_rfl) (RunR.cons (tab_cons (on := true) (fun _ => avail_whyOf_ok hx6) tab_nil) (Step.call0 (g := 29) (caps := []) (v := .pv (.int .i64 x6)) (by kernel_rfl) (by kernel_rfl) (by kernel_rfl) (tab_hit (by kernel_rfl)) (by kernel_rfl)) (RunR.all (by kernel_rfl)))) ?_
   refine W.seqKeep rfl ?_
   cases h
   exact W.seqRet ((fin_ret (by kernel_rfl)))
  ·replace h := h'
   refine W.seqSkip ?_
   refine W.seqOps (RunR.all (by kernel_rfl)) ?_
   refine W.keep rfl ?_
   cases h
   exact W.ret ((fin_ret (by kernel_rfl)))
def pavail_in_intr0 : List GOp := [⟨(some 6), none, .mov (.cst (.bool false))⟩]
def pavail_in_intr1 : List GOp := [⟨(some 7), none, .mov (.tmp 0)⟩, ⟨(some 8), none, .mov (.tmp 1)⟩, ⟨(some 9), none, .bin false .geq (.tmp 7) (.tmp 8)⟩, ⟨(some 10), none, .mov (.tmp 9)⟩, ⟨(some 11), (some (10, true)), .mov (.tmp 0)⟩, ⟨(some 12), (some (10, true)), .mov (.tmp 2)⟩, ⟨(some 13), (some (10, true)), .bin false .leq (.tmp 11) (.tmp 12)⟩, ⟨(some 14), none, .pick (.tmp 10) (.tmp 13) (.cst (.bool false))⟩, ⟨(some 6), none, .mov (.tmp 14)⟩]
def pavail_in_intb : AC := (.seq (.ops pavail_in_intr0) (.seq (.ops pavail_in_intr1) (.keep [] [(6, false)] [] [] [] .ret)))
def pavail_in_int : Fd := ⟨3, [.tmp 6], [], pavail_in_intb⟩
theorem pavail_in_int_ag : agreeF Tryz.prog Tryz.f30 pavail_in_int = true := by kernel_rfl
theorem avail_in_int_ok {n1 : Int} {low2 : Int} {high3 : Int} {r : Bool} (h : avail_in_int n1 low2 high3 = some r) : Contract Tryz.prog 30 [.pv (.int .i64 n1), .pv (.int .i64 low2), .pv (.int .i64 high3)] [] ⟨.pv (.bool r), [], []⟩ := by
 refine contract_fin hm Tryz.func30 pavail_in_int_ag (by kernel_rfl) ?_
 unfold avail_in_int at h
 refine W.seqOps (RunR.all (by kernel_rfl)) ?_
 replace h := bindS h
 obtain ⟨c4, hc4, h⟩ := h
 refine W.seqOps (RunR.stat 3 (by kernel_rfl) (RunR.dyn (Step.name (f := eBool) (e := decide (n1 ≥ low2)) (c := c4) (by kernel_rfl) hc4) (RunR.puts 4 [(14, .pv (.bool (c4 && (decide (n1 ≤ high3))))), (13, (bif c4 then (.pv (.bool (decide (n1 ≤ high3)))) else (.tup []))), (12, (bif c4 then (.pv (.int .i64 high3)) else (.tup []))), (11, (bif c4 then (.pv (.int .i64 n1)) else (.tup [])))] (by cases c4 <;> kernel_rfl) (RunR.all (by kernel_rfl))))) ?_
 refine W.keep rfl ?_
 cases h
 exact W.ret ((fin_ret (by kernel_rfl)))
def phold_Liver0 : List GOp := [⟨(some 2), none, .box (.tmp 0)⟩, ⟨(some 4), none, .mov (.cst (.bool false))⟩]
def phold_Liver1 : List GOp := [⟨(some 5), none, .load true 9 (.tmp 2)⟩, ⟨(some 6), none, .call 0 0 (.cst (.fn 84)) [(.tmp 5)] [] []⟩, ⟨(some 7), none, .mov (.tmp 6)⟩, ⟨(some 8), (some (7, true)), .fld 8 (.tmp 2)⟩, ⟨(some 9), (some (7, true)), .load false 1 (.tmp 8)⟩, ⟨(some 10), (some (7, true)), .un .not (.tmp 9)⟩, ⟨(some 11), none, .pick (.tmp 7) (.tmp 10) (.cst (.bool false))⟩, ⟨(some 12), none, .mov (.tmp 11)⟩, ⟨(some 13), (some (12, true)), .mov (.tmp 1)⟩, ⟨(some 14), (some (12, true)), .fld 5 (.tmp 2)⟩, ⟨(some 15), (some (12, true)), .load false 1 (.tmp 14)⟩, ⟨(some 16), (some (12, true)), .bin false .geq (.tmp 13) (.tmp 15)⟩, ⟨(some 17), none, .pick (.tmp 12) (.tmp 16) (.cst (.bool false))⟩, ⟨(some 18), none, .mov (.tmp 17)⟩, ⟨(some 19), (some (18, true)), .mov (.tmp 1)⟩, ⟨(some 20), (some (18, true)), .fld 6 (.tmp 2)⟩, ⟨(some 21), (some (18, true)), .load false 1 (.tmp 20)⟩, ⟨(some 22), (some (18, true)), .bin false .leq (.tmp 19) (.tmp 21)⟩, ⟨(some 23), none, .pick (.tmp 18) (.tmp 22) (.cst (.bool false))⟩, ⟨(some 4), none, .mov (.tmp 23)⟩]
def phold_Liveb : AC := (.seq (.ops phold_Liver0) (.seq (.ops phold_Liver1) (.keep [] [(4, false)] [] [.loc 2 0] [] .ret)))
def phold_Live : Fd := ⟨2, [.tmp 4], [], phold_Liveb⟩
theorem phold_Live_ag : agreeF Tryz.prog Tryz.f63 phold_Live = true := by kernel_rfl
theorem hold_Live_ok {h1 : T_api_Hold} {now2 : Int} {r : Bool} (h : hold_Live h1 now2 = some r) : Contract Tryz.prog 63 [.pv (T_api_Hold.pv h1), .pv (.int .i32 now2)] [] ⟨.pv (.bool r), [], []⟩ := by
 refine contract_fin hm Tryz.func63 phold_Live_ag (by kernel_rfl) ?_
 unfold hold_Live at h
 refine W.seqOps (RunR.all (by kernel_rfl)) ?_
 replace h := bindS h
 obtain ⟨x3, hx3, h⟩ := h
 replace h := bindS h
 obtain ⟨c4, hc4, h⟩ := h
 replace h := bindS h
 obtain ⟨c5, hc5, h⟩ := h
 refine W.seqOps (RunR.stat 1 (by kernel_rfl) (RunR.cons (tab_cons (on := true) (fun _ => hold_right_ok hx3) tab_nil) (Step.call0 (g := 84) (caps := []) (v := .pv (.bool x3)) (by kernel_rfl) (by kernel_rfl) (by kernel_rfl) (tab_hit (by kernel_rfl)) (by kernel_rfl)) (RunR.stat 1 (by kernel_rfl) (RunR.puts 4 [(11, .pv (.bool (x3 && (!h1.f_Done)))), (10, (bif x3 then (.pv (.bool (!h1.f_Done))) else (.tup []))), (9, (bif x3 then (.pv (.bool h1.f_Done)) else (.tup []))), (8, (bif x3 then (.ptr (.loc 2 0) 8) else (.tup [])))] (by cases x3 <;> kernel_rfl) (RunR.dyn (Step.name (f := eBool) (e := (x3 && (!h1.f_Done))) (c := c4) (by kernel_rfl) hc4) (RunR.puts 5 [(17, .pv (.bool (c4 && (decide (now2 ≥ h1.f_Made))))), (16, (bif c4 then (.pv (.bool (decide (now2 ≥ h1.f_Made)))) else (.tup []))), (15, (bif c4 then (.pv (.int .i32 h1.f_Made)) else (.tup []))), (14, (bif c4 then (.ptr (.loc 2 0) 5) else (.tup []))), (13, (bif c4 then (.pv (.int .i32 now2)) else (.tup [])))] (by cases c4 <;> kernel_rfl) (RunR.dyn (Step.name (f := eBool) (e := (c4 && (decide (now2 ≥ h1.f_Made)))) (c := c5) (by kernel_rfl) hc5) (RunR.puts 5 [(23, .pv (.bool (c5 && (decide (now2 ≤ h1.f_Until))))), (22, (bif c5 then (.pv (.bool (decide (now2 ≤ h1.f_Until)))) else (.tup []))), (21, (bif c5 then (.pv (.int .i32 h1.f_Until)) else (.tup []))), (20, (bif c5 then (.ptr (.loc 2 0) 6) else (.tup []))), (19, (bif c5 then (.pv (.int .i32 now2)) else (.tup [])))] (by cases c5 <;> kernel_rfl) (RunR.all (by kernel_rfl)))))))))) ?_
 refine W.keep rfl ?_
 cases h
 exact W.ret ((fin_ret (by kernel_rfl)))
def phold_Restr0 : List GOp := [⟨(some 2), none, .box (.tmp 0)⟩, ⟨(some 4), none, .mov (.cst (.int .i64 0))⟩]
def phold_Restr1 : List GOp := [⟨(some 5), none, .load true 9 (.tmp 2)⟩, ⟨(some 6), none, .mov (.tmp 1)⟩, ⟨(some 7), none, .call 0 0 (.cst (.fn 63)) [(.tmp 5), (.tmp 6)] [] []⟩, ⟨(some 8), none, .un .not (.tmp 7)⟩]
def phold_Restr2 : List GOp := [⟨(some 4), none, .mov (.cst (.int .i64 0))⟩]
def phold_Restr3 : List GOp := [⟨(some 9), none, .fld 2 (.tmp 2)⟩, ⟨(some 10), none, .fld 1 (.tmp 9)⟩, ⟨(some 11), none, .load false 1 (.tmp 10)⟩, ⟨(some 12), none, .fld 7 (.tmp 2)⟩, ⟨(some 13), none, .load false 1 (.tmp 12)⟩, ⟨(some 14), none, .bin false .sub (.tmp 11) (.tmp 13)⟩, ⟨(some 4), none, .mov (.tmp 14)⟩]
def phold_Restb : AC := (.seq (.ops phold_Restr0) (.seq (.seq (.ops phold_Restr1) (.cond (.tmp 8) (.seq (.ops phold_Restr2) (.keep [] [(4, false)] [] [.loc 2 0] [] .ret)) .skip)) (.seq (.ops phold_Restr3) (.keep [] [(4, false)] [] [.loc 2 0] [] .ret))))
def phold_Rest : Fd := ⟨2, [.tmp 4], [], phold_Restb⟩
theorem phold_Rest_ag : agreeF Tryz.prog Tryz.f27 phold_Rest = true := by kernel_rfl
theorem hold_Rest_ok {h1 : T_api_Hold} {now2 : Int} {r : Int} (h : hold_Rest h1 now2 = some r) : Contract Tryz.prog 27 [.pv (T_api_Hold.pv h1), .pv (.int .i32 now2)] [] ⟨.pv (.int .i64 r), [], []⟩ := by
 refine contract_fin hm Tryz.func27 phold_Rest_ag (by kernel_rfl) ?_
 unfold hold_Rest at h
 refine W.seqOps (RunR.all (by kernel_rfl)) ?_
 refine W.assoc ?_
 replace h := bindS h
 obtain ⟨x3, hx3, h⟩ := h
 refine W.seqOps (RunR.stat 2 (by kernel_rfl) (RunR.cons (tab_cons (on := true) (fun _ => hold_Live_ok hx3) tab_nil) (Step.call0 (g := 63) (caps := []) (v := .pv (.bool x3)) (by kernel_rfl) (by kernel_rfl) (by kernel_rfl) (tab_hit (by kernel_rfl)) (by kernel_rfl)) (RunR.all (by kernel_rfl)))) ?_
 refine W.seqCond (t := !x3) (by kernel_rfl) h (fun hc h' => ?_) (fun hc h' => ?_)
 ·replace h := h'
  refine W.assoc ?_
  refine W.seqOps (RunR.all (by kernel_rfl)) ?_
  refine W.seqKeep rfl ?_
  cases h
  exact W.seqRet ((fin_ret (by kernel_rfl)))
 ·replace h := h'
  refine W.seqSkip ?_
  refine W.seqOps (RunR.all (by kernel_rfl)) ?_
  refine W.keep rfl ?_
  cases h
  exact W.ret ((fin_ret (by kernel_rfl)))
def qthose_r0 : List GOp := [⟨(some 4), none, .box (.tmp 0)⟩, ⟨(some 5), none, .box (.tmp 1)⟩, ⟨(some 6), none, .box (.tmp 2)⟩, ⟨(some 7), none, .box (.tmp 3)⟩, ⟨(some 8), none, .mov (.cst .nilFn)⟩]
def qthose_r1 : List GOp := [⟨(some 9), none, .mkfn 132 [(.tmp 4), (.tmp 5), (.tmp 6), (.tmp 7)]⟩, ⟨(some 8), none, .mov (.tmp 9)⟩]
def qthose_b : AC := (.seq (.ops qthose_r0) (.seq (.ops qthose_r1) (.keep [.loc 4 0, .loc 5 0, .loc 6 0, .loc 7 0] [(8, false)] [] [] [] .ret)))
def qthose : Fd := ⟨4, [.tmp 8], [], qthose_b⟩
theorem qthose_ag : agreeF Tryz.prog Tryz.f101 qthose = true := by kernel_rfl
theorem those_bare {l : List PV} {acc cur now : Int} : Contract Tryz.prog 101 [.pv (.slice l), .pv (.int .i64 acc), .pv (.int .i64 cur), .pv (.int .i32 now)] [] ⟨.fn 132 [.ipv (.agg [.slice l]) 0, .ipv (.agg [.int .i64 acc]) 0, .ipv (.agg [.int .i64 cur]) 0, .ipv (.agg [.int .i32 now]) 0], [], []⟩ := by
 refine contract_fin hm Tryz.func101 qthose_ag (by kernel_rfl) ?_
 refine W.seqOps (RunR.all (by kernel_rfl)) ?_
 refine W.seqOps (RunR.all (by kernel_rfl)) ?_
 refine W.keep rfl ?_
 exact W.ret ((fin_ret (by kernel_rfl)))
def it_r0 : List GOp := [⟨(some 8), none, .load false 1 (.tmp 1)⟩, ⟨(some 9), none, .len false (.tmp 8)⟩, ⟨(some 10), none, .mov (.cst (.int .i64 0))⟩]
def it_r1 : List GOp := [⟨(some 11), none, .bin false .lss (.tmp 10) (.tmp 9)⟩]
def it_r2 : List GOp := [⟨(some 12), none, .idx 9 (.tmp 8) (.tmp 10)⟩, ⟨(some 13), none, .load true 9 (.tmp 12)⟩, ⟨(some 7), none, .alloc [.pv (.int .i64 0), .pv (.int .i64 0), .pv (.int .i64 0), .pv (.int .i64 0), .pv (.int .i64 0), .pv (.int .i32 0), .pv (.int .i32 0), .pv (.int .i64 0), .pv (.bool false)]⟩, ⟨none, none, .store 9 (.tmp 7) (.tmp 13)⟩]
def it_r3a : List GOp := [⟨(some 14), none, .fld 1 (.tmp 7)⟩, ⟨(some 15), none, .load false 1 (.tmp 14)⟩, ⟨(some 16), none, .load false 1 (.tmp 2)⟩, ⟨(some 17), none, .bin false .eql (.tmp 15) (.tmp 16)⟩, ⟨(some 18), none, .mov (.tmp 17)⟩, ⟨(some 19), (some (18, true)), .fld 2 (.tmp 7)⟩, ⟨(some 20), (some (18, true)), .fld 0 (.tmp 19)⟩, ⟨(some 21), (some (18, true)), .load false 1 (.tmp 20)⟩, ⟨(some 22), (some (18, true)), .load false 1 (.tmp 3)⟩, ⟨(some 23), (some (18, true)), .bin false .eql (.tmp 21) (.tmp 22)⟩, ⟨(some 24), none, .pick (.tmp 18) (.tmp 23) (.cst (.bool false))⟩, ⟨(some 25), none, .mov (.tmp 24)⟩, ⟨(some 26), (some (25, true)), .load true 9 (.tmp 7)⟩, ⟨(some 27), (some (25, true)), .load false 1 (.tmp 4)⟩, ⟨(some 28), (some (25, true)), .call 0 0 (.cst (.fn 63)) [(.tmp 26), (.tmp 27)] [] []⟩, ⟨(some 29), none, .pick (.tmp 25) (.tmp 28) (.cst (.bool false))⟩, ⟨(some 30), none, .mov (.tmp 29)⟩, ⟨(some 31), (some (30, true)), .mov (.tmp 0)⟩, ⟨(some 32), (some (30, true)), .load true 9 (.tmp 7)⟩]
def it_c : List GOp := [⟨(some 33), (some (30, true)), .call 0 0 (.tmp 31) [(.tmp 32)] [] []⟩]
def it_r3b : List GOp := [⟨(some 34), (some (30, true)), .un .not (.tmp 33)⟩, ⟨(some 35), none, .pick (.tmp 30) (.tmp 34) (.cst (.bool false))⟩]
def it_r4 : List GOp := [⟨(some 36), none, .bin false .add (.tmp 10) (.cst (.int .i64 1))⟩, ⟨(some 10), none, .mov (.tmp 36)⟩]
def it_b : AC := .seq (.ops it_r0) (.block 0 (.loop [] [] (.seq (.ops it_r1) (.seq (.cond (.tmp 11) .skip (.exit 0)) (.seq (.block 1 (.seq (.ops it_r2) (.seq (.ops (it_r3a ++ it_c ++ it_r3b)) (.cond (.tmp 35) .ret .skip)))) (.ops it_r4))))))
def it : Fd := ⟨5, [], [], it_b⟩
theorem it_ag : agreeF Tryz.prog Tryz.f132 it = true := by kernel_rfl
def it_ks : List Nat := [0, 1, 2, 3, 4, 8, 9, 10]
def it_hd (L : Nat) (l : List T_api_Hold) (acc cur now i : Int) : St := ⟨[(0, .pv (.yld L)), (1, .ipv (.agg [.slice (l.map T_api_Hold.pv)]) 0), (2, .ipv (.agg [.int .i64 acc]) 0), (3, .ipv (.agg [.int .i64 cur]) 0), (4, .ipv (.agg [.int .i32 now]) 0),
 (8, .pv (.slice (l.map T_api_Hold.pv))), (9, .pv (.int .i64 (l.length : Int))), (10, .pv (.int .i64 i))], []⟩
def it_hy (L : Nat) (l : List T_api_Hold) (acc cur now i : Int) : St := (⟨(30, .pv (.bool true)) :: (it_hd L l acc cur now i).sl, []⟩ : St).put (some 33) (.pv (.bool true))
section
variable {L : Nat} {l : List T_api_Hold} {acc cur now i : Int} {h : T_api_Hold}
theorem it_start : ∃ σ', RunR Tryz.prog it_r0 (enter [.pv (.yld L), .ipv (.agg [.slice (l.map T_api_Hold.pv)]) 0, .ipv (.agg [.int .i64 acc]) 0, .ipv (.agg [.int .i64 cur]) 0, .ipv (.agg [.int .i32 now]) 0] []) σ' ∧ keepS σ' it_ks = (it_hd L l acc cur now 0).sl ∧ (it_ks.all fun t => (σ'.get t).bare) = true :=
 ⟨_, RunR.stat 1 (by kernel_rfl) (RunR.dyn (Step.lenT (f := T_api_Hold.pv) (l := l) (by kernel_rfl)) (RunR.all (by kernel_rfl))), by kernel_rfl, by kernel_rfl⟩
def it_s1 (L : Nat) (l : List T_api_Hold) (acc cur now i : Int) : St := (it_hd L l acc cur now i).goes noCl false it_r1
def it_s2 (L : Nat) (l : List T_api_Hold) (acc cur now i : Int) (h : T_api_Hold) : St := ((it_s1 L l acc cur now i).put (some 12) (.ipv (T_api_Hold.pv h) 0)).goes noCl false (it_r2.drop 1)
theorem it_more : RunR Tryz.prog it_r1 (it_hd L l acc cur now i) (it_s1 L l acc cur now i) ∧ (it_s1 L l acc cur now i).ev (.tmp 11) = .pv (.bool (decide (i < (l.length : Int)))) :=
 ⟨RunR.all (by kernel_rfl), by kernel_rfl⟩
theorem it_elem (he : rdO l i = some h) : RunR Tryz.prog it_r2 (it_s1 L l acc cur now i) (it_s2 L l acc cur now i h) :=
 RunR.dyn (Step.idxT (f := T_api_Hold.pv) (l := l) (k := .i64) (by kernel_rfl) (by kernel_rfl) he (by kernel_rfl)) (RunR.all (by kernel_rfl))
theorem it_no (hs : selO acc cur now h = some false) (hb : IntKind.wrap .i64 (i + 1) = i + 1) : ∃ σ3 σ4, RunR Tryz.prog (it_r3a ++ it_c ++ it_r3b) (it_s2 L l acc cur now i h) σ3 ∧ σ3.ev (.tmp 35) = .pv (.bool false) ∧ RunR Tryz.prog it_r4 σ3 σ4 ∧ keepS σ4 it_ks = (it_hd L l acc cur now (i + 1)).sl ∧ (it_ks.all fun t => (σ4.get t).bare) = true := by
 unfold selO at hs
 cases hc1 : (h.f_Acc == acc) with
 | false =>
  have hc1 : some (h.f_Acc == acc) = some false := by rw [hc1]
  refine ⟨_, _, RunR.stat 4 (by kernel_rfl) (RunR.cons noCl_sound (Step.name (f := PV.bool) (e := h.f_Acc == acc) (c := false) (by kernel_rfl) hc1) (RunR.all (by kernel_rfl))), by kernel_rfl, RunR.all (by kernel_rfl), ?_, by kernel_rfl⟩
  rw [← hb]; kernel_rfl
 | true =>
  rw [hc1, if_pos rfl] at hs
  have hc1 : some (h.f_Acc == acc) = some true := by rw [hc1]
  cases hc2 : (h.f_Amount.f_Cur == cur) with
  | false =>
   have hc2 : some (h.f_Amount.f_Cur == cur) = some false := by rw [hc2]
   refine ⟨_, _, RunR.stat 4 (by kernel_rfl) (RunR.cons noCl_sound (Step.name (f := PV.bool) (e := h.f_Acc == acc) (c := true) (by kernel_rfl) hc1) (RunR.stat 6 (by kernel_rfl) (RunR.cons noCl_sound (Step.name (f := PV.bool) (e := h.f_Amount.f_Cur == cur) (c := false) (by kernel_rfl) hc2) (RunR.all (by kernel_rfl))))), by kernel_rfl, RunR.all (by kernel_rfl), ?_, by kernel_rfl⟩
   rw [← hb]; kernel_rfl
  | true =>
   rw [hc2, if_pos rfl] at hs
   have hc2 : some (h.f_Amount.f_Cur == cur) = some true := by rw [hc2]
   refine ⟨_, _, RunR.stat 4 (by kernel_rfl) (RunR.cons noCl_sound (Step.name (f := PV.bool) (e := h.f_Acc == acc) (c := true) (by kernel_rfl) hc1) (RunR.stat 6 (by kernel_rfl) (RunR.cons noCl_sound (Step.name (f := PV.bool) (e := h.f_Amount.f_Cur == cur) (c := true) (by kernel_rfl) hc2) (RunR.stat 2 (by kernel_rfl)
    (RunR.cons (tab_cons (on := true) (fun _ => hold_Live_ok hs) tab_nil) (Step.gdG (v := .pv (.bool false)) true rfl (.inr ⟨rfl, by kernel_rfl, Step.call0 (g := 63) (caps := []) (v := .pv (.bool false)) (by kernel_rfl) (by kernel_rfl) (by kernel_rfl) (tab_hit (by kernel_rfl)) (by kernel_rfl)⟩)) (RunR.all (by kernel_rfl))))))), by kernel_rfl, RunR.all (by kernel_rfl), ?_, by kernel_rfl⟩
   rw [← hb]; kernel_rfl
theorem it_yes (hs : selO acc cur now h = some true) : ∃ σ3, RunR Tryz.prog it_r3a (it_s2 L l acc cur now i h) σ3 ∧ σ3.wants (some (30, true)) = some true ∧ σ3.ev (.tmp 31) = .pv (.yld L) ∧ σ3.ev (.tmp 32) = .pv (T_api_Hold.pv h) ∧
  keepS σ3 (30 :: it_ks) = (30, .pv (.bool true)) :: (it_hd L l acc cur now i).sl ∧ ((30 :: it_ks).all fun t => (σ3.get t).bare) = true := by
 unfold selO at hs
 cases hc1 : (h.f_Acc == acc) with
 | false => rw [hc1] at hs; cases hs
 | true =>
  rw [hc1, if_pos rfl] at hs
  have hc1 : some (h.f_Acc == acc) = some true := by rw [hc1]
  cases hc2 : (h.f_Amount.f_Cur == cur) with
  | false => rw [hc2] at hs; cases hs
  | true =>
   rw [hc2, if_pos rfl] at hs
   have hc2 : some (h.f_Amount.f_Cur == cur) = some true := by rw [hc2]
   exact ⟨_, RunR.stat 4 (by kernel_rfl) (RunR.cons noCl_sound (Step.name (f := PV.bool) (e := h.f_Acc == acc) (c := true) (by kernel_rfl) hc1) (RunR.stat 6 (by kernel_rfl) (RunR.cons noCl_sound (Step.name (f := PV.bool) (e := h.f_Amount.f_Cur == cur) (c := true) (by kernel_rfl) hc2) (RunR.stat 2 (by kernel_rfl)
    (RunR.cons (tab_cons (on := true) (fun _ => hold_Live_ok hs) tab_nil) (Step.gdG (v := .pv (.bool true)) true rfl (.inr ⟨rfl, by kernel_rfl, Step.call0 (g := 63) (caps := []) (v := .pv (.bool true)) (by kernel_rfl) (by kernel_rfl) (by kernel_rfl) (tab_hit (by kernel_rfl)) (by kernel_rfl)⟩)) (RunR.all (by kernel_rfl))))))), by kernel_rfl, by kernel_rfl, by kernel_rfl, by kernel_rfl, by kernel_rfl⟩
theorem it_back (hb : IntKind.wrap .i64 (i + 1) = i + 1) : ∃ σ3 σ4, RunR Tryz.prog it_r3b (it_hy L l acc cur now i) σ3 ∧ σ3.ev (.tmp 35) = .pv (.bool false) ∧ RunR Tryz.prog it_r4 σ3 σ4 ∧ keepS σ4 it_ks = (it_hd L l acc cur now (i + 1)).sl ∧ (it_ks.all fun t => (σ4.get t).bare) = true := by
 refine ⟨_, _, RunR.all (by kernel_rfl), by kernel_rfl, RunR.all (by kernel_rfl), ?_, by kernel_rfl⟩
 rw [← hb]; kernel_rfl
end
def it_rd : AC := .seq (.ops it_r1) (.seq (.cond (.tmp 11) .skip (.exit 0)) (.seq (.block 1 (.seq (.ops it_r2) (.seq (.ops (it_r3a ++ it_c ++ it_r3b)) (.cond (.tmp 35) .ret .skip)))) (.ops it_r4)))
theorem rdO_mid {α : Type} (pre : List α) (x : α) (t : List α) : rdO (pre ++ x :: t) (pre.length : Int) = some x := by
 unfold rdO
 rw [if_pos (by omega)]
 simp
theorem yieldAt_mono {P : Program} {l : Nat} {vs : Array Value} {w : World} {R R' : Ending → World → Prop} (h : YieldAt Fence.wide 0 P l vs w R) (hR : ∀ e w', R e w' → R' e w') : YieldAt Fence.wide 0 P l vs w R' := by
 obtain ⟨fn, tmps, x, y, h1, h2⟩ := h
 exact ⟨fn, tmps, x, y, h1, h2.mono hR⟩
section
variable {L : Nat} {l r : List T_api_Hold} {acc cur now : Int} {J : Nat → (Nat → Prop) → World → Prop} {γ : Nat → Blk} {nt : Nat}
theorem it_loop (hnt : 33 < nt) (hlen : (l.length : Int) < 4611686018427387904)
  (hg : ∀ i Z W W', J i Z W → W.grownBy W' none → J i (fun b => Z b ∨ (W.heap.size ≤ b ∧ b < W'.heap.size)) W')
  (hy : ∀ (i : Nat) (Z : Nat → Prop) (x : PV) (v : Value) (W : World), (r.map T_api_Hold.pv)[i]? = some x → Lies W (fun _ => False) x v → J i Z W →
   YieldAt Fence.wide 0 Tryz.prog L #[v] W fun e W' => e = .returned (.bool true) ∧ J (i + 1) Z W' ∧ W.heap.size ≤ W'.heap.size ∧ ∀ b, Z b → W'.heap[b]? = W.heap[b]?)
  {Q : Exit → Act → World → Prop} {c : Code} (hc : agreeCode Tryz.prog nt c it_rd = true)
  (hQ : ∀ (C : Ctx) (β : Key → Blk) (σ : St) (a : Act) (w : World) (Z : Nat → Prop), C.nt = nt → C.ext = [] → C.dfs = [] → RR C β σ a w → J r.length Z w → Q (.exit 0) a w) :
  ∀ (rest pre r' pk : List T_api_Hold) (Z : Nat → Prop) (W : World) (a : Act) (β : Key → Blk), pre ++ rest = l → itO acc cur now rest = some r' → pk ++ r' = r → (∀ b, Z b → b < W.heap.size) → J pk.length Z W →
   RR ⟨W, [], γ, nt, Z, []⟩ β (it_hd L l acc cur now (pre.length : Int)) a W → Lp none 0 Tryz.prog c Q a W := by
 intro rest
 induction rest with
 | nil =>
  intro pre r' pk Z W a β hl hr hp hZ hJ h
  cases hr
  rw [List.append_nil] at hl hp
  subst hl; subst hp
  refine lp_round ?_
  have hb : (it_s1 L pre acc cur now (pre.length : Int)).ev (.tmp 11) = .pv (.bool false) := by
   rw [(it_more (L := L) (l := pre) (acc := acc) (cur := cur) (now := now)).2]; simp
  have hev : Ev Tryz.prog it_rd (it_hd L pre acc cur now (pre.length : Int)) (.exit 0) (it_s1 L pre acc cur now (pre.length : Int)) :=
   .seq (.ops it_more.1) (.seq_out (.cond hb (.exit 0 _)) (by simp))
  refine (ev_sound (C := ⟨W, [], γ, nt, Z, []⟩) hm hev c β a W _ hc h (fun β' a' w' h' => ?_)).1
  exact hQ _ _ _ _ _ _ rfl rfl rfl h' (hg _ _ _ _ hJ h'.away)
 | cons x t ih =>
  intro pre r' pk Z W a β hl hr hp hZ hJ h
  subst hl
  have hi : decide ((pre.length : Int) < ((pre ++ x :: t).length : Int)) = true := by
   rw [decide_eq_true_iff]; simp only [List.length_append, List.length_cons]; omega
  have hw : IntKind.wrap .i64 ((pre.length : Int) + 1) = (pre.length : Int) + 1 := by
   have : (pre.length : Int) < 4611686018427387904 := by simp only [List.length_append, List.length_cons] at hlen; omega
   rw [IntKind.wrap_i64]; omega
  have hb : (it_s1 L (pre ++ x :: t) acc cur now (pre.length : Int)).ev (.tmp 11) = .pv (.bool true) := by
   rw [(it_more (L := L) (l := pre ++ x :: t) (acc := acc) (cur := cur) (now := now)).2, hi]
  have he : rdO (pre ++ x :: t) (pre.length : Int) = some x := rdO_mid pre x t
  have hnx : ((pre ++ [x]).length : Int) = (pre.length : Int) + 1 := by simp
  simp only [itO, Option.bind_eq_some_iff, Option.map_eq_some_iff] at hr
  obtain ⟨b, hs, r1, hr1, hrr⟩ := hr
  refine lp_round ?_
  cases b with
  | false =>
   simp only [cond_false] at hrr
   subst hrr
   obtain ⟨σ3, σ4, q1, q2, q3, q4, q5⟩ := it_no (L := L) (l := pre ++ x :: t) (i := (pre.length : Int)) hs hw
   have hev : Ev Tryz.prog it_rd (it_hd L (pre ++ x :: t) acc cur now (pre.length : Int)) .norm σ4 :=
    .seq (.ops it_more.1) (.seq (.cond hb (.skip _)) (.seq (.block (.seq (.ops (it_elem he)) (.seq (.ops q1) (.cond q2 (.skip _))))) (.ops q3)))
   refine (ev_sound (C := ⟨W, [], γ, nt, Z, []⟩) hm hev c β a W _ hc h (fun β' a' w' h' => ?_)).1
   have h2 := h'.anew hZ it_ks q5 (W' := w') (fun b _ => rfl) (Nat.le_refl _)
   rw [q4, ← hnx] at h2
   refine ih (pre ++ [x]) r1 pk _ w' a' β' (by simp) hr1 hp (fun b hb => ?_) (hg _ _ _ _ hJ h'.away) h2
   rcases hb with q | q
   ·have := hZ b q; have := h'.size; simp at this; omega
   ·exact q.2
  | true =>
   simp only [cond_true] at hrr
   subst hrr
   obtain ⟨σ3, q1, q2, q3, q4, q5, q6⟩ := it_yes (L := L) (l := pre ++ x :: t) (i := (pre.length : Int)) hs
   obtain ⟨σ4, σ5, p1, p2, p3, p4, p5⟩ := it_back (L := L) (l := pre ++ x :: t) (acc := acc) (cur := cur) (now := now) hw
   obtain ⟨c1, c2, rfl, g1, g2⟩ := ag_seq hc
   obtain ⟨c3, c4, rfl, g3, g4⟩ := ag_seq g2
   obtain ⟨c5, c6, rfl, g5, g6⟩ := ag_seq g4
   obtain ⟨c7, rfl, g7⟩ := ag_block g5
   obtain ⟨c8, c9, rfl, g8, g9⟩ := ag_seq g7
   obtain ⟨c10, c11, rfl, g10, g11⟩ := ag_seq g9
   obtain ⟨id, ops, rfl, g12⟩ := ag_ops g10
   refine wpIn_seq ((ev_sound (C := ⟨W, [], γ, nt, Z, []⟩) hm (.ops it_more.1) c1 β a W _ g1 h (fun β1 a1 w1 h1 => ?_)).1)
   refine wpIn_seq ((ev_sound (C := ⟨W, [], γ, nt, Z, []⟩) hm (.cond hb (.skip _)) c3 β1 a1 w1 _ g3 h1 (fun β1 a1 w1 h1 => ?_)).1)
   refine wpIn_seq (wpIn_block ?_)
   refine wpIn_seq ((ev_sound (C := ⟨W, [], γ, nt, Z, []⟩) hm (.ops (it_elem he)) c8 β1 a1 w1 _ g8 h1 (fun β1 a1 w1 h1 => ?_)).1)
   refine wpIn_seq (wpIn_region_list ?_)
   obtain ⟨la, lb, hab, ga, gb⟩ := all2_app g12
   obtain ⟨la1, la2, hab2, ga1, ga2⟩ := all2_app ga
   subst hab2
   rw [hab, List.append_assoc]
   refine sound_opsA q1 h1 ga1 (fun β2 a2 w2 h2 => ?_)
   cases la2 with
   | nil => simp [it_c, all2] at ga2
   | cons o la3 =>
    cases la3 with
    | cons _ _ => simp [it_c, all2] at ga2
    | nil =>
     simp only [it_c, all2, Bool.and_true] at ga2
     refine sound_yield (rest := lb) h2 ga2 rfl q2 q3 (fun v hv => ?_)
     rw [q4] at hv
     have hlv : Lies w2 (fun _ => False) (T_api_Hold.pv x) v := scalar_lies (slies_pv hv) (by kernel_rfl)
     have hJ2 := hg _ _ _ _ hJ h2.away
     have hxk : (r.map T_api_Hold.pv)[pk.length]? = some (T_api_Hold.pv x) := by rw [← hp]; simp
     refine yieldAt_mono (hy pk.length _ _ v w2 hxk hlv hJ2) ?_
     rintro e W3 ⟨rfl, hJ3, hsz3, hk3⟩
     refine ⟨_, rfl, ?_⟩
     have h3 := h2.anew hZ (30 :: it_ks) q6 (W' := W3) (fun b hb => hk3 b hb) hsz3
     rw [q5] at h3
     have h4 := h3.put (some 33) (.pv (.bool true)) (.bool true) (fun i hi => by cases hi; exact hnt) (.pv _ _ (.bool _))
     refine sound_opsR p1 h4 gb (fun β5 a5 w5 h5 => ?_)
     refine (ev_sound (C := ⟨W3, [], γ, nt, more Z W w2, []⟩) hm (.cond p2 (.skip _)) c11 β5 a5 w5 _ g11 h5 (fun β6 a6 w6 h6 => ?_)).1
     refine (ev_sound (C := ⟨W3, [], γ, nt, more Z W w2, []⟩) hm (.ops p3) c6 β6 a6 w6 _ g6 h6 (fun β7 a7 w7 h7 => ?_)).1
     have hZ2 : ∀ b, more Z W w2 b → b < W3.heap.size := fun b hb => by
      rcases hb with q | q
      ·have := hZ b q; have := h2.size; simp at this; omega
      ·omega
     have h8 := h7.anew hZ2 it_ks p5 (W' := w7) (fun b _ => rfl) (Nat.le_refl _)
     rw [p4, ← hnx] at h8
     refine ih (pre ++ [x]) r1 (pk ++ [x]) _ w7 a7 β7 (by simp) hr1 (by simp [← hp]) (fun b hb => ?_) ?_ h8
     ·rcases hb with q | q
      ·have := hZ2 b q; have := h7.size; simp at this; omega
      ·exact q.2
     ·rw [List.length_append]
      exact hg _ _ _ _ hJ3 h7.away
end
theorem it_iter {l r : List T_api_Hold} {acc cur now : Int} (hlen : (l.length : Int) < 4611686018427387904) (hr : itO acc cur now l = some r) :
  IterC Tryz.prog 132 [.ipv (.agg [.slice (l.map T_api_Hold.pv)]) 0, .ipv (.agg [.int .i64 acc]) 0, .ipv (.agg [.int .i64 cur]) 0, .ipv (.agg [.int .i32 now]) 0] (r.map T_api_Hold.pv) := by
 have hag := it_ag
 simp only [agreeF, Bool.and_eq_true, decide_eq_true_eq, Bool.not_eq_true'] at hag
 obtain ⟨⟨⟨⟨h1, h2⟩, h5⟩, h3⟩, h4⟩ := hag
 obtain ⟨c, hc⟩ : ∃ c, Tryz.f132.body = some c := ⟨_, rfl⟩
 rw [hc] at h4
 refine ⟨fun args w => ?_, ?_⟩
 ·simp only [callFunc, Sem.run_bind, run_program, Result.andThen_ok, Tryz.func132, hc, h2, Option.isNone, Bool.false_eq_true, if_false, Sem.run_pure]
 ·intro L lb w Z0 J hZ hGk hcl hlb hg hy hJ
  have harr : (#[Value.func (.yield L) #[] #[]] ++ lb.toArray) = (Value.func (.yield L) #[] #[] :: lb).toArray := by apply Array.ext'; simp
  rw [harr]
  refine (callsIn_wide (n := 0)).2 (calls_of_wp Tryz.func132 hc (wpIn_wide (n := 0).1 ?_))
  show Code.wpIn (fr none) 0 Tryz.prog _ _ _ _
  have h0 := enter_rr (w := w) (vs := Value.func (.yield L) #[] #[] :: lb) (γ := fun _ => ⟨none, 0⟩) (ok := Z0) (args := [.pv (.yld L), .ipv (.agg [.slice (l.map T_api_Hold.pv)]) 0, .ipv (.agg [.int .i64 acc]) 0, .ipv (.agg [.int .i64 cur]) 0, .ipv (.agg [.int .i32 now]) 0]) (ext := []) (nt := Tryz.f132.ntmps)
   (fun b hb => ⟨hZ b hb, fun i hi => absurd hi (by simp)⟩) hGk (fun i j b hi => absurd hi (by simp)) (fun i o ho => by simp at ho) (by simp only [List.length_cons, ← hcl]) (fun j x v hx hv => ?_) (show 5 ≤ Tryz.f132.ntmps by decide)
  ·obtain ⟨c1, c2, rfl, g1, g2⟩ := ag_seq h4
   obtain ⟨c3, rfl, g3⟩ := ag_block g2
   obtain ⟨c4, rfl, g4⟩ := ag_loop g3
   obtain ⟨σ1, q1, q2, q3⟩ := it_start (L := L) (l := l) (acc := acc) (cur := cur) (now := now)
   refine wpIn_seq ((ev_sound (C := ⟨w, [], fun _ => ⟨none, 0⟩, Tryz.f132.ntmps, Z0, []⟩) hm (.ops q1) c1 _ _ w _ g1 h0 (fun β1 a1 w1 h1 => ?_)).1)
   refine wpIn_block (wp_lp ?_)
   have h2 := h1.anew hZ it_ks q3 (W' := w1) (fun b _ => rfl) (Nat.le_refl _)
   rw [q2] at h2
   refine it_loop (by decide) hlen hg hy g4 (fun C β σ a w Z hn he hd h hJ => ?_) l [] r [] _ w1 a1 β1 rfl hr rfl (fun b hb => ?_) (hg _ _ _ _ hJ h1.away) h2
   ·obtain ⟨v, δ, hv, _⟩ := leave_sound (P := Tryz.prog) (cl := noCl) (fd := it) (fn := Tryz.f132) (r := ⟨.tup [], [], (List.range C.ext.length).map fun i => (σ.look (.ext i)).map (HObj.nm (toR it.out))⟩) h h3 (by decide) (by intro k hk; cases hk) rfl
    exact ⟨by rw [h.dfs, hd], v, hv, ⟨v, rfl⟩, Z, by simpa using hJ⟩
   ·rcases hb with q | q
    ·have := hZ b q; have := h1.size; simp at this; omega
    ·exact q.2
  ·cases j with
   | zero =>
    simp only [List.getElem?_cons_zero, Option.some.injEq] at hx hv
    subst hx; subst hv
    exact .pv _ _ (.yld _)
   | succ j =>
    simp only [List.getElem?_cons_succ] at hx hv
    refine (hlb j x v hx hv).mono' (fun b _ off u hu => hu) (fun b hb => hb) (fun k o hk hl => by cases hl)
theorem hold_those_iter {l r : List T_api_Hold} {acc cur now : Int} (h : hold_those l acc cur now = some r) :
  IterC Tryz.prog 132 [.ipv (.agg [.slice (l.map T_api_Hold.pv)]) 0, .ipv (.agg [.int .i64 acc]) 0, .ipv (.agg [.int .i64 cur]) 0, .ipv (.agg [.int .i32 now]) 0] (r.map T_api_Hold.pv) := by
 unfold hold_those at h
 split at h
 ·exact it_iter ‹_› h
 ·cases h
def sum_r0 : List GOp := [⟨(some 8), none, .box (.tmp 3)⟩, ⟨(some 9), none, .box (.tmp 4)⟩, ⟨(some 10), none, .mov (.cst (.int .i64 0))⟩, ⟨(some 11), none, .mov (.cst (.int .i64 0))⟩]
def sum_r1 : List GOp := [⟨(some 15), none, .mov (.tmp 0)⟩, ⟨(some 16), none, .call 0 0 (.cst (.fn 35)) [(.tmp 15)] [] []⟩, ⟨(some 12), none, .mov (.tmp 16)⟩]
def sum_r2 : List GOp := [⟨(some 17), none, .mov (.tmp 12)⟩, ⟨(some 18), none, .bin false .neq (.tmp 17) (.cst (.int .i64 0))⟩]
def sum_r3 : List GOp := [⟨(some 19), none, .mov (.tmp 12)⟩, ⟨(some 10), none, .mov (.cst (.int .i64 0))⟩, ⟨(some 11), none, .mov (.tmp 19)⟩]
def sum_r4 : List GOp := [⟨(some 13), none, .alloc [.pv (.int .i64 0)]⟩, ⟨none, none, .store 1 (.tmp 13) (.cst (.int .i64 0))⟩]
def sum_r5 : List GOp := [⟨(some 20), none, .mov (.tmp 0)⟩, ⟨(some 21), none, .mov (.tmp 1)⟩, ⟨(some 22), none, .mov (.tmp 2)⟩, ⟨(some 23), none, .load false 1 (.tmp 8)⟩, ⟨(some 24), none, .call 1 0 (.cst (.fn 101)) [(.tmp 20), (.tmp 21), (.tmp 22), (.tmp 23)] [] []⟩]
def sum_r6 : List GOp := [⟨(some 14), none, .alloc [.pv (.int .i64 0), .pv (.int .i64 0), .pv (.int .i64 0), .pv (.int .i64 0), .pv (.int .i64 0), .pv (.int .i32 0), .pv (.int .i32 0), .pv (.int .i64 0), .pv (.bool false)]⟩, ⟨none, none, .store 9 (.tmp 14) (.tmp 25)⟩]
def sum_r7 : List GOp := [⟨(some 26), none, .fld 4 (.tmp 14)⟩, ⟨(some 27), none, .load false 1 (.tmp 26)⟩, ⟨(some 28), none, .load false 1 (.tmp 9)⟩, ⟨(some 29), none, .bin false .geq (.tmp 27) (.tmp 28)⟩]
def sum_r8 : List GOp := [⟨(some 30), none, .load false 1 (.tmp 13)⟩, ⟨(some 31), none, .load true 9 (.tmp 14)⟩, ⟨(some 32), none, .load false 1 (.tmp 8)⟩, ⟨(some 33), none, .call 0 0 (.cst (.fn 27)) [(.tmp 31), (.tmp 32)] [] []⟩, ⟨(some 34), none, .bin false .add (.tmp 30) (.tmp 33)⟩, ⟨none, none, .store 1 (.tmp 13) (.tmp 34)⟩]
def sum_r9 : List GOp := [⟨(some 35), none, .load false 1 (.tmp 13)⟩, ⟨(some 10), none, .mov (.tmp 35)⟩, ⟨(some 11), none, .mov (.cst (.int .i64 0))⟩]
def sum_b : AC := .block 1 (.seq (.ops sum_r7) (.cond (.tmp 29) (.draw [] sum_r8) .skip))
def sum_x : AX := .seq (.ev (.ops sum_r0)) (.seq (.seq (.ev (.ops sum_r1)) (.ev (.seq (.ops sum_r2) (.cond (.tmp 18) (.seq (.ops sum_r3) .ret) .skip)))) (.seq (.ev (.ops sum_r4)) (.seq (.seq (.ev (.ops sum_r5))
 (.block (.keep [] [(8, false), (9, false), (13, false), (24, false)] [(.loc 8 0, false), (.loc 9 0, false), (.loc 13 0, false)] [] [] (.range (.tmp 24) 25 (.ops sum_r6) sum_b)))) (.ev (.seq (.ops sum_r9) .ret)))))
theorem sum_ag : agreeFX Tryz.prog Tryz.f71 5 [.tmp 10, .tmp 11] [] sum_x = true := by kernel_rfl
def sum_T (l : List T_api_Hold) (acc cur now rank n : Int) : St := ⟨[(8, .ptr (.loc 8 0) 0), (9, .ptr (.loc 9 0) 0), (13, .ptr (.loc 13 0) 0), (24, .fn 132 [.ipv (.agg [.slice (l.map T_api_Hold.pv)]) 0, .ipv (.agg [.int .i64 acc]) 0, .ipv (.agg [.int .i64 cur]) 0, .ipv (.agg [.int .i32 now]) 0])],
 [(.loc 8 0, .box [.pv (.int .i32 now)]), (.loc 9 0, .box [.pv (.int .i64 rank)]), (.loc 13 0, .box [.pv (.int .i64 n)])]⟩
theorem sum_round {l : List T_api_Hold} {acc cur now rank n n' : Int} {x : T_api_Hold} (h : sumStep now rank n x = some n') : RoundE Tryz.prog 25 (.ops sum_r6) sum_b (T_api_Hold.pv x) (sum_T l acc cur now rank n) (sum_T l acc cur now rank n') := by
 unfold sumStep at h
 cases hc : decide (x.f_Rank ≥ rank) with
 | false =>
  rw [hc] at h
  simp only [Bool.false_eq_true, if_false, Option.some.injEq] at h
  subst h
  exact ⟨⟨[.loc 8 0, .loc 9 0, .loc 13 0], [8, 9, 13], [.box [.pv (.int .i32 now)], .box [.pv (.int .i64 rank)], .box [.pv (.int .i64 n)]], _, _, [], ⟨.tup [], [], [some (.box [.pv (.int .i32 now)]), some (.box [.pv (.int .i64 rank)]), some (.box [.pv (.int .i64 n)])]⟩, 200, 0, ⟨.tup [], []⟩, sum_T l acc cur now rank n, by kernel_rfl, by decide, .ops (RunR.all (by kernel_rfl)), .block (.seq (.ops (RunR.all (by kernel_rfl))) (.cond (t := false) (Eq.trans (b := .pv (.bool (decide (x.f_Rank ≥ rank)))) (by kernel_rfl) (by rw [hc])) (.skip _))), by decide, by simp, by kernel_rfl, by kernel_rfl, by kernel_rfl, by simp, by kernel_rfl⟩⟩
 | true =>
  rw [hc, if_pos rfl] at h
  simp only [Option.bind_eq_some_iff, Option.some.injEq] at h
  obtain ⟨r, hr, rfl⟩ := h
  exact ⟨⟨[.loc 8 0, .loc 9 0, .loc 13 0], [8, 9, 13], [.box [.pv (.int .i32 now)], .box [.pv (.int .i64 rank)], .box [.pv (.int .i64 n)]], _, _, [], ⟨.tup [], [], [some (.box [.pv (.int .i32 now)]), some (.box [.pv (.int .i64 rank)]), some (.box [.pv (.int .i64 (IntKind.wrap .i64 (n + r)))])]⟩, 200, 0, ⟨.tup [], []⟩, sum_T l acc cur now rank (IntKind.wrap .i64 (n + r)), by kernel_rfl, by decide, .ops (RunR.all (by kernel_rfl)), .block (.seq (.ops (RunR.all (by kernel_rfl))) (.cond (t := true) (Eq.trans (b := .pv (.bool (decide (x.f_Rank ≥ rank)))) (by kernel_rfl) (by rw [hc]))
   (.draw (tab_cons (on := true) (fun _ => hold_Rest_ok hr) tab_nil) (Run.stat 3 (by kernel_rfl) (Run.dyn (Step.call0 (g := 27) (caps := []) (v := .pv (.int .i64 r)) (by kernel_rfl) (by kernel_rfl) (by kernel_rfl) (tab_hit (by kernel_rfl)) (by kernel_rfl)) (Run.all (by kernel_rfl))))))), by decide, by simp, by kernel_rfl, by kernel_rfl, by kernel_rfl, by simp, by kernel_rfl⟩⟩
theorem hold_Sum_ok {l1 : List T_api_Hold} {acc2 cur3 now4 rank5 : Int} {r : Int × Int} (h : hold_Sum l1 acc2 cur3 now4 rank5 = some r) :
  Contract Tryz.prog 71 [.pv (.slice (List.map T_api_Hold.pv l1)), .pv (.int .i64 acc2), .pv (.int .i64 cur3), .pv (.int .i32 now4), .pv (.int .i64 rank5)] [] ⟨.tup [.pv (.int .i64 r.1), .pv (.int .i64 r.2)], [], []⟩ := by
 unfold hold_Sum at h
 obtain ⟨e, he, h⟩ := bindS h
 cases hc : (e != 0) with
 | true =>
  rw [hc, if_pos rfl] at h
  cases h
  refine contract_evx hm Tryz.func71 sum_ag (by kernel_rfl) (EvX.seq (.ev (.ops (RunR.all (by kernel_rfl)))) (.seq_out (.seq (.ev (.ops (RunR.stat 1 (by kernel_rfl) (RunR.cons (tab_cons (on := true) (fun _ => hold_Check_ok he) tab_nil) (Step.call0 (g := 35) (caps := []) (v := .pv (.int .i64 e)) (by kernel_rfl) (by kernel_rfl) (by kernel_rfl) (tab_hit (by kernel_rfl)) (by kernel_rfl)) (RunR.all (by kernel_rfl))))))
   (.ev (.seq (.ops (RunR.all (by kernel_rfl))) (.cond (t := true) (Eq.trans (b := .pv (.bool (e != 0))) (by kernel_rfl) (by rw [hc])) (.seq (.ops (RunR.all (by kernel_rfl))) (.ret _)))))) (by simp))) (.inr rfl) (by kernel_rfl)
 | false =>
  rw [hc] at h
  simp only [Bool.false_eq_true, if_false] at h
  obtain ⟨q, hq, h⟩ := bindS h
  obtain ⟨n, hn, h⟩ := bindS h
  cases h
  refine contract_evx hm Tryz.func71 sum_ag (by kernel_rfl) (EvX.seq (.ev (.ops (RunR.all (by kernel_rfl)))) (.seq (.seq (.ev (.ops (RunR.stat 1 (by kernel_rfl) (RunR.cons (tab_cons (on := true) (fun _ => hold_Check_ok he) tab_nil) (Step.call0 (g := 35) (caps := []) (v := .pv (.int .i64 e)) (by kernel_rfl) (by kernel_rfl) (by kernel_rfl) (tab_hit (by kernel_rfl)) (by kernel_rfl)) (RunR.all (by kernel_rfl))))))
   (.ev (.seq (.ops (RunR.all (by kernel_rfl))) (.cond (t := false) (Eq.trans (b := .pv (.bool (e != 0))) (by kernel_rfl) (by rw [hc])) (.skip _))))) (.seq (.ev (.ops (RunR.all (by kernel_rfl)))) (.seqM (.seq (.ev (.ops (RunR.stat 4 (by kernel_rfl) (RunR.cons (tab_cons (on := true) (fun _ => those_bare (l := List.map T_api_Hold.pv l1) (acc := acc2) (cur := cur3) (now := now4)) tab_nil) (Step.callS (g := 101) (ins := []) (caps := []) (v := .fn 132 [.ipv (.agg [.slice (l1.map T_api_Hold.pv)]) 0, .ipv (.agg [.int .i64 acc2]) 0, .ipv (.agg [.int .i64 cur3]) 0, .ipv (.agg [.int .i32 now4]) 0]) (by kernel_rfl) (by kernel_rfl) (by kernel_rfl) (tab_hit (by kernel_rfl)) (by kernel_rfl)) (.nil _)))))
    (.block (.keepE (σ1 := sum_T l1 acc2 cur3 now4 rank5 0) (by kernel_rfl) (?_ : EvX _ _ _ _ .norm (sum_T l1 acc2 cur3 now4 rank5 n) true)) (by simp))) (.seq (.ops (RunR.all (by kernel_rfl))) (.ret _)) (by kernel_rfl))))) (.inr rfl) (by kernel_rfl)
  have := EvX.rangeO (P := Tryz.prog) (ne := 0) (g := .tmp 24) (p := 25) (a := .ops sum_r6) (b := sum_b) (enc := T_api_Hold.pv) (l := q) (fun _ n => sum_T l1 acc2 cur3 now4 rank5 n) hn rfl (by intro x hx; simp only [List.mem_cons, List.not_mem_nil, or_false] at hx; rcases hx with rfl | rfl | rfl | rfl <;> rfl) (fun x => by kernel_rfl) (hold_those_iter hq) (fun i s x s1 hs => sum_round hs) (fun i s => by kernel_rfl)
  exact this
def pavail_account_freer0 : List GOp := [⟨(some 5), none, .box (.tmp 0)⟩, ⟨(some 6), none, .box (.tmp 1)⟩, ⟨(some 10), none, .mov (.cst (.int .i64 0))⟩]
def pavail_account_freer1 : List GOp := [⟨(some 14), none, .fld 3 (.tmp 6)⟩, ⟨(some 15), none, .load false 1 (.tmp 14)⟩, ⟨(some 16), none, .mov (.tmp 2)⟩, ⟨(some 17), none, .fld 0 (.tmp 5)⟩, ⟨(some 18), none, .load false 1 (.tmp 17)⟩, ⟨(some 19), none, .mov (.tmp 3)⟩, ⟨(some 20), none, .mov (.tmp 4)⟩, ⟨(some 21), none, .call 0 0 (.cst (.fn 71)) [(.tmp 15), (.tmp 16), (.tmp 18), (.tmp 19), (.tmp 20)] [] []⟩, ⟨(some 13), none, .mov (.tmp 21)⟩, ⟨(some 22), none, .ext 0 (.tmp 13)⟩, ⟨(some 23), none, .ext 1 (.tmp 13)⟩, ⟨(some 11), none, .mov (.tmp 22)⟩, ⟨(some 12), none, .mov (.tmp 23)⟩]
def pavail_account_freer2 : List GOp := [⟨(some 24), none, .fld 1 (.tmp 5)⟩, ⟨(some 25), none, .load false 1 (.tmp 24)⟩, ⟨(some 26), none, .fld 2 (.tmp 5)⟩, ⟨(some 27), none, .load false 1 (.tmp 26)⟩, ⟨(some 28), none, .bin false .add (.tmp 25) (.tmp 27)⟩, ⟨(some 29), none, .mov (.tmp 11)⟩, ⟨(some 30), none, .bin false .sub (.tmp 28) (.tmp 29)⟩, ⟨(some 10), none, .mov (.tmp 30)⟩]
def pavail_account_freeb : AC := (.seq (.ops pavail_account_freer0) (.seq (.ops pavail_account_freer1) (.seq (.ops pavail_account_freer2) (.keep [] [(10, false)] [] [.loc 5 0, .loc 6 0] [] .ret))))
def pavail_account_free : Fd := ⟨5, [.tmp 10], [], pavail_account_freeb⟩
theorem pavail_account_free_ag : agreeF Tryz.prog Tryz.f31 pavail_account_free = true := by kernel_rfl
theorem avail_account_free_ok {a1 : T_avail_account} {t2 : T_api_Till} {acc3 : Int} {now4 : Int} {rank5 : Int} {r : Int} (h : avail_account_free a1 t2 acc3 now4 rank5 = some r) : Contract Tryz.prog 31 [.pv (T_avail_account.pv a1), .pv (T_api_Till.pv t2), .pv (.int .i64 acc3), .pv (.int .i32 now4), .pv (.int .i64 rank5)] [] ⟨.pv (.int .i64 r), [], []⟩ := by
 refine contract_fin hm Tryz.func31 pavail_account_free_ag (by kernel_rfl) ?_
 unfold avail_account_free at h
 refine W.seqOps (RunR.all (by kernel_rfl)) ?_
 replace h := bindS h
 obtain ⟨x6, hx6, h⟩ := h
 refine W.seqOps (RunR.stat 7 (by kernel_rfl) (RunR.cons (tab_cons (on := true) (fun _ => hold_Sum_ok hx6) tab_nil) (Step.call0 (g := 71) (caps := []) (v := .tup [.pv (.int .i64 x6.1), .pv (.int .i64 x6.2)]) (by kernel_rfl) (by kernel_rfl) (by kernel_rfl) (tab_hit (by kernel_rfl)) (by kernel_rfl)) (RunR.all (by kernel_rfl)))) ?_
 refine W.seqOps (RunR.all (by kernel_rfl)) ?_
 refine W.keep rfl ?_
 cases h
 exact W.ret ((fin_ret (by kernel_rfl)))
def pavail_Freer0 : List GOp := [⟨(some 4), none, .box (.tmp 0)⟩, ⟨(some 8), none, .mov (.cst (.int .i64 0))⟩, ⟨(some 9), none, .mov (.cst (.int .i64 0))⟩]
def pavail_Freer1 : List GOp := [⟨(some 12), none, .load true 5 (.tmp 4)⟩, ⟨(some 13), none, .call 0 0 (.cst (.fn 11)) [(.tmp 12)] [] []⟩, ⟨(some 14), none, .un .not (.tmp 13)⟩, ⟨(some 15), none, .mov (.tmp 14)⟩, ⟨(some 16), (some (15, false)), .mov (.tmp 3)⟩, ⟨(some 17), (some (15, false)), .call 0 0 (.cst (.fn 30)) [(.tmp 16), (.cst (.int .i64 0)), (.cst (.int .i64 9))] [] []⟩, ⟨(some 18), (some (15, false)), .un .not (.tmp 17)⟩, ⟨(some 19), none, .pick (.tmp 15) (.cst (.bool true)) (.tmp 18)⟩]
def pavail_Freer2 : List GOp := [⟨(some 8), none, .mov (.cst (.int .i64 0))⟩, ⟨(some 9), none, .mov (.cst (.int .i64 1))⟩]
def pavail_Freer3 : List GOp := [⟨(some 21), none, .load true 5 (.tmp 4)⟩, ⟨(some 22), none, .mov (.tmp 1)⟩, ⟨(some 23), none, .mov (.tmp 2)⟩, ⟨(some 24), none, .call 0 0 (.cst (.fn 28)) [(.tmp 21), (.tmp 22), (.tmp 23)] [] []⟩, ⟨(some 20), none, .mov (.tmp 24)⟩, ⟨(some 25), none, .ext 0 (.tmp 20)⟩, ⟨(some 26), none, .ext 1 (.tmp 20)⟩, ⟨(some 10), none, .alloc [.pv (.int .i64 0), .pv (.int .i64 0), .pv (.int .i64 0)]⟩, ⟨none, none, .store 3 (.tmp 10) (.tmp 25)⟩, ⟨(some 11), none, .mov (.tmp 26)⟩]
def pavail_Freer4 : List GOp := [⟨(some 27), none, .mov (.tmp 11)⟩, ⟨(some 28), none, .isNil true (.tmp 27)⟩]
def pavail_Freer5 : List GOp := [⟨(some 29), none, .mov (.tmp 11)⟩, ⟨(some 30), none, .call 0 0 (.cst (.fn 29)) [(.tmp 29)] [] []⟩, ⟨(some 8), none, .mov (.cst (.int .i64 0))⟩, ⟨(some 9), none, .mov (.tmp 30)⟩]
def pavail_Freer6 : List GOp := [⟨(some 31), none, .load true 3 (.tmp 10)⟩, ⟨(some 32), none, .load true 5 (.tmp 4)⟩, ⟨(some 33), none, .mov (.tmp 1)⟩, ⟨(some 34), none, .mov (.tmp 2)⟩, ⟨(some 35), none, .mov (.tmp 3)⟩, ⟨(some 36), none, .call 0 0 (.cst (.fn 31)) [(.tmp 31), (.tmp 32), (.tmp 33), (.tmp 34), (.tmp 35)] [] []⟩, ⟨(some 8), none, .mov (.tmp 36)⟩, ⟨(some 9), none, .mov (.cst (.int .i64 0))⟩]
def pavail_Freeb : AC := (.seq (.ops pavail_Freer0) (.seq (.seq (.ops pavail_Freer1) (.cond (.tmp 19) (.seq (.ops pavail_Freer2) (.keep [] [(8, false), (9, false)] [] [.loc 10 0, .loc 4 0] [] .ret)) .skip)) (.seq (.ops pavail_Freer3) (.seq (.seq (.ops pavail_Freer4) (.cond (.tmp 28) (.seq (.ops pavail_Freer5) (.keep [] [(8, false), (9, false)] [] [.loc 10 0, .loc 4 0] [] .ret)) .skip)) (.seq (.ops pavail_Freer6) (.keep [] [(8, false), (9, false)] [] [.loc 10 0, .loc 4 0] [] .ret))))))
def pavail_Free : Fd := ⟨4, [.tmp 8, .tmp 9], [], pavail_Freeb⟩
theorem pavail_Free_ag : agreeF Tryz.prog Tryz.f9 pavail_Free = true := by kernel_rfl
theorem avail_Free_ok {t1 : T_api_Till} {acc2 : Int} {now3 : Int} {rank4 : Int} {r : Int × Int} (h : avail_Free t1 acc2 now3 rank4 = some r) : Contract Tryz.prog 9 [.pv (T_api_Till.pv t1), .pv (.int .i64 acc2), .pv (.int .i32 now3), .pv (.int .i64 rank4)] [] ⟨.tup [.pv (.int .i64 r.1), .pv (.int .i64 r.2)], [], []⟩ := by
 refine contract_fin hm Tryz.func9 pavail_Free_ag (by kernel_rfl) ?_
 unfold avail_Free at h
 refine W.seqOps (RunR.all (by kernel_rfl)) ?_
 refine W.assoc ?_
 replace h := bindS h
 obtain ⟨x5, hx5, h⟩ := h
 replace h := bindS h
 obtain ⟨c6, hc6, h⟩ := h
 replace h := bindS h
 obtain ⟨x7, hx7, h⟩ := h
 refine W.seqOps (RunR.stat 1 (by kernel_rfl) (RunR.cons (tab_cons (on := true) (fun _ => avail_Right_ok hx5) tab_nil) (Step.call0 (g := 11) (caps := []) (v := .pv (.bool x5)) (by kernel_rfl) (by kernel_rfl) (by kernel_rfl) (tab_hit (by kernel_rfl)) (by kernel_rfl)) (RunR.stat 1 (by kernel_rfl) (RunR.dyn (Step.name (f := eBool) (e := !x5) (c := c6) (by kernel_rfl) hc6) (RunR.puts 1 [(16, (bif !c6 then (.pv (.int .i64 rank4)) else (.tup [])))] (by cases c6 <;> kernel_rfl) (RunR.cons (tab_cons (on := (!c6)) (fun hg => avail_in_int_ok (gdO_at hg hx7)) tab_nil) (Step.gdG (!c6) (by kernel_rfl) (by
    cases c6
    ·exact .inr ⟨by kernel_rfl, by kernel_rfl, Step.call0 (g := 30) (caps := []) (v := .pv (.bool x7)) (by kernel_rfl) (by kernel_rfl) (by kernel_rfl) (tab_hit (by kernel_rfl)) (by kernel_rfl)⟩
    ·exact .inl ⟨by kernel_rfl, by kernel_rfl⟩)) (RunR.puts 2 [(19, .pv (.bool (c6 || (!x7)))), (18, (bif !c6 then (.pv (.bool (!x7))) else (.tup [])))] (by cases c6 <;> kernel_rfl) ((.nil _))))))))) ?_
 refine W.seqCond (t := (c6 || (!x7))) (by kernel_rfl) h (fun hc h' => ?_) (fun hc h' => ?_)
 ·replace h := h'
  refine W.assoc ?_
  refine W.seqOps (RunR.all (by kernel_rfl)) ?_
  refine W.seqKeep rfl ?_
  cases h
  exact W.seqRet ((fin_ret (by kernel_rfl)))
 ·replace h := h'
  refine W.seqSkip ?_
  replace h := bindS h
  obtain ⟨x8, hx8, h⟩ := h
  refine W.seqOps (RunR.stat 3 (by kernel_rfl) (RunR.cons (tab_cons (on := true) (fun _ => avail_ask_ok hx8) tab_nil) (Step.call0 (g := 28) (caps := []) (v := .tup [.pv (T_avail_account.pv x8.1), .pv (eErr 113 x8.2)]) (by kernel_rfl) (by kernel_rfl) (by kernel_rfl) (tab_hit (by kernel_rfl)) (by kernel_rfl)) (RunR.all (by kernel_rfl)))) ?_
  refine W.assoc ?_
  refine W.seqOps (RunR.stat 1 (by kernel_rfl) (RunR.dyn (Step.isNilT (t := 113) (e := x8.2) (by kernel_rfl)) ((.nil _)))) ?_
  refine W.seqCond (t := Option.isSome x8.2) (by kernel_rfl) h (fun hc h' => ?_) (fun hc h' => ?_)
  ·replace h := h'
   refine W.assoc ?_
   replace h := bindS h
   obtain ⟨x9, hx9, h⟩ := h
   refine W.seqOps (RunR.stat 1 (by kernel_rfl) (RunR.cons (tab_cons (on := true) (fun _ => avail_whyOf_ok hx9) tab_nil) (Step.call0 (g := 29) (caps := []) (v := .pv (.int .i64 x9)) (by kernel_rfl) (by kernel_rfl) (by kernel_rfl) (tab_hit (by kernel_rfl)) (by kernel_rfl)) (RunR.all (by kernel_rfl)))) ?_
   refine W.seqKeep rfl ?_
   cases h
   exact W.seqRet ((fin_ret (by kernel_rfl)))
  ·replace h := h'
   refine W.seqSkip ?_
   replace h := bindS h
   obtain ⟨x10, hx10, h⟩ := h
   refine W.seqOps (RunR.stat 5 (by kernel_rfl) (RunR.cons (tab_cons (on := true) (fun _ => avail_account_free_ok hx10) tab_nil) (Step.call0 (g := 31) (caps := []) (v := .pv (.int .i64 x10)) (by kernel_rfl) (by kernel_rfl) (by kernel_rfl) (tab_hit (by kernel_rfl)) (by kernel_rfl)) (RunR.all (by kernel_rfl)))) ?_
   refine W.keep rfl ?_
   cases h
   exact W.ret ((fin_ret (by kernel_rfl)))
def pavail_Payr0 : List GOp := [⟨(some 4), none, .box (.tmp 0)⟩, ⟨(some 6), none, .box (.tmp 2)⟩, ⟨(some 8), none, .mov (.cst (.bool false))⟩, ⟨(some 9), none, .mov (.cst (.int .i64 0))⟩]
def pavail_Payr1 : List GOp := [⟨(some 12), none, .load true 5 (.tmp 4)⟩, ⟨(some 13), none, .call 0 0 (.cst (.fn 11)) [(.tmp 12)] [] []⟩, ⟨(some 14), none, .un .not (.tmp 13)⟩]
def pavail_Payr2 : List GOp := [⟨(some 8), none, .mov (.cst (.bool false))⟩, ⟨(some 9), none, .mov (.cst (.int .i64 1))⟩]
def pavail_Payr3 : List GOp := [⟨(some 16), none, .load true 5 (.tmp 4)⟩, ⟨(some 17), none, .mov (.tmp 1)⟩, ⟨(some 18), none, .mov (.tmp 3)⟩, ⟨(some 19), none, .call 0 0 (.cst (.fn 28)) [(.tmp 16), (.tmp 17), (.tmp 18)] [] []⟩, ⟨(some 15), none, .mov (.tmp 19)⟩, ⟨(some 20), none, .ext 0 (.tmp 15)⟩, ⟨(some 21), none, .ext 1 (.tmp 15)⟩, ⟨(some 10), none, .alloc [.pv (.int .i64 0), .pv (.int .i64 0), .pv (.int .i64 0)]⟩, ⟨none, none, .store 3 (.tmp 10) (.tmp 20)⟩, ⟨(some 11), none, .mov (.tmp 21)⟩]
def pavail_Payr4 : List GOp := [⟨(some 23), none, .mov (.tmp 11)⟩, ⟨(some 24), none, .isNil true (.tmp 23)⟩, ⟨(some 22), none, .mov (.tmp 24)⟩]
def pavail_Payr5 : List GOp := [⟨(some 25), none, .mov (.tmp 11)⟩, ⟨(some 26), none, .call 0 0 (.cst (.fn 29)) [(.tmp 25)] [] []⟩, ⟨(some 8), none, .mov (.cst (.bool false))⟩, ⟨(some 9), none, .mov (.tmp 26)⟩]
def pavail_Payr6 : List GOp := [⟨(some 28), none, .fld 0 (.tmp 6)⟩, ⟨(some 29), none, .load false 1 (.tmp 28)⟩, ⟨(some 30), none, .fld 0 (.tmp 10)⟩, ⟨(some 31), none, .load false 1 (.tmp 30)⟩, ⟨(some 32), none, .bin false .neq (.tmp 29) (.tmp 31)⟩, ⟨(some 27), none, .mov (.tmp 32)⟩]
def pavail_Payr7 : List GOp := [⟨(some 8), none, .mov (.cst (.bool false))⟩, ⟨(some 9), none, .mov (.cst (.int .i64 12))⟩]
def pavail_Payr8 : List GOp := [⟨(some 34), none, .fld 1 (.tmp 6)⟩, ⟨(some 35), none, .load false 1 (.tmp 34)⟩, ⟨(some 36), none, .call 0 0 (.cst (.fn 32)) [(.tmp 35), (.cst (.int .i64 1)), (.cst (.int .i64 1000000000000000))] [] []⟩, ⟨(some 37), none, .un .not (.tmp 36)⟩, ⟨(some 33), none, .mov (.tmp 37)⟩]
def pavail_Payr9 : List GOp := [⟨(some 8), none, .mov (.cst (.bool false))⟩, ⟨(some 9), none, .mov (.cst (.int .i64 1))⟩]
def pavail_Payr10 : List GOp := [⟨(some 38), none, .fld 1 (.tmp 6)⟩, ⟨(some 39), none, .load false 1 (.tmp 38)⟩, ⟨(some 40), none, .load true 3 (.tmp 10)⟩, ⟨(some 41), none, .load true 5 (.tmp 4)⟩, ⟨(some 42), none, .mov (.tmp 1)⟩, ⟨(some 43), none, .mov (.tmp 3)⟩, ⟨(some 44), none, .call 0 0 (.cst (.fn 31)) [(.tmp 40), (.tmp 41), (.tmp 42), (.tmp 43), (.cst (.int .i64 0))] [] []⟩, ⟨(some 45), none, .bin false .leq (.tmp 39) (.tmp 44)⟩, ⟨(some 8), none, .mov (.tmp 45)⟩, ⟨(some 9), none, .mov (.cst (.int .i64 0))⟩]
def pavail_Payb : AC := (.seq (.ops pavail_Payr0) (.seq (.seq (.ops pavail_Payr1) (.cond (.tmp 14) (.seq (.ops pavail_Payr2) (.keep [] [(8, false), (9, false)] [] [.loc 10 0, .loc 4 0, .loc 6 0] [] .ret)) .skip)) (.seq (.ops pavail_Payr3) (.seq (.pass 0 (.seq (.ops pavail_Payr4) (.cond (.tmp 22) (.seq (.ops pavail_Payr5) (.keep [] [(8, false), (9, false)] [] [.loc 10 0, .loc 4 0, .loc 6 0] [] .ret)) (.seq (.ops pavail_Payr6) (.cond (.tmp 27) (.seq (.ops pavail_Payr7) (.keep [] [(8, false), (9, false)] [] [.loc 10 0, .loc 4 0, .loc 6 0] [] .ret)) (.seq (.ops pavail_Payr8) (.cond (.tmp 33) (.seq (.ops pavail_Payr9) (.keep [] [(8, false), (9, false)] [] [.loc 10 0, .loc 4 0, .loc 6 0] [] .ret)) .skip))))))) (.seq (.draw [] pavail_Payr10) (.keep [] [(8, false), (9, false)] [] [.loc 10 0, .loc 4 0, .loc 6 0] [] .ret))))))
def pavail_Pay : Fd := ⟨4, [.tmp 8, .tmp 9], [], pavail_Payb⟩
theorem pavail_Pay_ag : agreeF Tryz.prog Tryz.f10 pavail_Pay = true := by kernel_rfl
theorem avail_Pay_ok {t1 : T_api_Till} {acc2 : Int} {amount3 : T_api_Money} {now4 : Int} {r : Bool × Int} (h : avail_Pay t1 acc2 amount3 now4 = some r) : Contract Tryz.prog 10 [.pv (T_api_Till.pv t1), .pv (.int .i64 acc2), .pv (T_api_Money.pv amount3), .pv (.int .i32 now4)] [] ⟨.tup [.pv (.bool r.1), .pv (.int .i64 r.2)], [], []⟩ := by
 refine contract_fin hm Tryz.func10 pavail_Pay_ag (by kernel_rfl) ?_
 unfold avail_Pay at h
 refine W.seqOps (RunR.all (by kernel_rfl)) ?_
 refine W.assoc ?_
 replace h := bindS h
 obtain ⟨x5, hx5, h⟩ := h
 refine W.seqOps (RunR.stat 1 (by kernel_rfl) (RunR.cons (tab_cons (on := true) (fun _ => avail_Right_ok hx5) tab_nil) (Step.call0 (g := 11) (caps := []) (v := .pv (.bool x5)) (by kernel_rfl) (by kernel_rfl) (by kernel_rfl) (tab_hit (by kernel_rfl)) (by kernel_rfl)) (RunR.all (by kernel_rfl)))) ?_
 refine W.seqCond (t := !x5) (by kernel_rfl) h (fun hc h' => ?_) (fun hc h' => ?_)
 ·replace h := h'
  refine W.assoc ?_
  refine W.seqOps (RunR.all (by kernel_rfl)) ?_
  refine W.seqKeep rfl ?_
  cases h
  exact W.seqRet ((fin_ret (by kernel_rfl)))
 ·replace h := h'
  refine W.seqSkip ?_
  replace h := bindS h
  obtain ⟨x6, hx6, h⟩ := h
  refine W.seqOps (RunR.stat 3 (by kernel_rfl) (RunR.cons (tab_cons (on := true) (fun _ => avail_ask_ok hx6) tab_nil) (Step.call0 (g := 28) (caps := []) (v := .tup [.pv (T_avail_account.pv x6.1), .pv (eErr 113 x6.2)]) (by kernel_rfl) (by kernel_rfl) (by kernel_rfl) (tab_hit (by kernel_rfl)) (by kernel_rfl)) (RunR.all (by kernel_rfl)))) ?_
  refine W.seqPass ?_
  refine W.assoc ?_
  refine W.seqOps (RunR.stat 1 (by kernel_rfl) (RunR.dyn (Step.isNilT (t := 113) (e := x6.2) (by kernel_rfl)) (RunR.all (by kernel_rfl)))) ?_
  refine W.seqCond (t := Option.isSome x6.2) (by kernel_rfl) h (fun hc h' => ?_) (fun hc h' => ?_)
  ·replace h := h'
   refine W.assoc ?_
   replace h := bindS h
   obtain ⟨x7, hx7, h⟩ := h
   refine W.seqOps (RunR.stat 1 (by kernel_rfl) (RunR.cons (tab_cons (on := true) (fun _ => avail_whyOf_ok hx7) tab_nil) (Step.call0 (g := 29) (caps := []) (v := .pv (.int .i64 x7)) (by kernel_rfl) (by kernel_rfl) (by kernel_rfl) (tab_hit (by kernel_rfl)) (by kernel_rfl)) (RunR.all (by kernel_rfl)))) ?_
   refine W.seqKeep rfl ?_
   cases h
   exact W.seqRet ((fin_ret (by kernel_rfl)))
  ·replace h := h'
   refine W.assoc ?_
   refine W.seqOps (RunR.all (by kernel_rfl)) ?_
   refine W.seqCond (t := (amount3.f_Cur != x6.1.f_cur)) (by kernel_rfl) h (fun hc h' => ?_) (fun hc h' => ?_)
   ·replace h := h'
    refine W.assoc ?_
    refine W.seqOps (RunR.all (by kernel_rfl)) ?_
    refine W.seqKeep rfl ?_
    cases h
    exact W.seqRet ((fin_ret (by kernel_rfl)))
   ·replace h := h'
    refine W.assoc ?_
    replace h := bindS h
    obtain ⟨x8, hx8, h⟩ := h
    refine W.seqOps (RunR.stat 2 (by kernel_rfl) (RunR.cons (tab_cons (on := true) (fun _ => avail_in_int64_ok hx8) tab_nil) (Step.call0 (g := 32) (caps := []) (v := .pv (.bool x8)) (by kernel_rfl) (by kernel_rfl) (by kernel_rfl) (tab_hit (by kernel_rfl)) (by kernel_rfl)) (RunR.all (by kernel_rfl)))) ?_
    refine W.seqCond (t := !x8) (by kernel_rfl) h (fun hc h' => ?_) (fun hc h' => ?_)
    ·replace h := h'
     refine W.assoc ?_
     refine W.seqOps (RunR.all (by kernel_rfl)) ?_
     refine W.seqKeep rfl ?_
     cases h
     exact W.seqRet ((fin_ret (by kernel_rfl)))
    ·replace h := h'
     refine W.seqSkip ?_
     replace h := bindS h
     obtain ⟨x9, hx9, h⟩ := h
     refine W.seqDraw (tab_cons (on := true) (fun _ => avail_account_free_ok hx9) tab_nil) (Run.stat 6 (by kernel_rfl) (Run.dyn (Step.call0 (g := 31) (caps := []) (v := .pv (.int .i64 x9)) (by kernel_rfl) (by kernel_rfl) (by kernel_rfl) (tab_hit (by kernel_rfl)) (by kernel_rfl)) (Run.all (by kernel_rfl)))) ?_
     refine W.keep rfl ?_
     cases h
     exact W.ret ((fin_ret (by kernel_rfl)))
def pcashbookref18_Customerr0 : List GOp := [⟨(some 1), none, .box (.tmp 0)⟩, ⟨(some 2), none, .mov (.cst (.bool false))⟩]
def pcashbookref18_Customerr1 : List GOp := [⟨(some 3), none, .mov (.cst (.int .i64 0))⟩]
def pcashbookref18_Customerr2 : List GOp := [⟨(some 4), none, .mov (.tmp 3)⟩, ⟨(some 5), none, .fld 1 (.tmp 1)⟩, ⟨(some 6), none, .load false 1 (.tmp 5)⟩, ⟨(some 7), none, .len true (.tmp 6)⟩, ⟨(some 8), none, .bin false .lss (.tmp 4) (.tmp 7)⟩]
def pcashbookref18_Customerr3 : List GOp := [⟨(some 11), none, .fld 1 (.tmp 1)⟩, ⟨(some 12), none, .load false 1 (.tmp 11)⟩, ⟨(some 13), none, .mov (.tmp 3)⟩, ⟨(some 14), none, .sidx (.tmp 12) (.tmp 13)⟩, ⟨(some 15), none, .bin false .lss (.tmp 14) (.cst (.int .u8 32))⟩, ⟨(some 16), none, .mov (.tmp 15)⟩, ⟨(some 17), (some (16, false)), .fld 1 (.tmp 1)⟩, ⟨(some 18), (some (16, false)), .load false 1 (.tmp 17)⟩, ⟨(some 19), (some (16, false)), .mov (.tmp 3)⟩, ⟨(some 20), (some (16, false)), .sidx (.tmp 18) (.tmp 19)⟩, ⟨(some 21), (some (16, false)), .bin false .gtr (.tmp 20) (.cst (.int .u8 126))⟩, ⟨(some 22), none, .pick (.tmp 16) (.cst (.bool true)) (.tmp 21)⟩]
def pcashbookref18_Customerr4 : List GOp := [⟨(some 2), none, .mov (.cst (.bool false))⟩]
def pcashbookref18_Customerr5 : List GOp := [⟨(some 9), none, .mov (.tmp 3)⟩, ⟨(some 10), none, .bin false .add (.tmp 9) (.cst (.int .i64 1))⟩, ⟨(some 3), none, .mov (.tmp 10)⟩]
def pcashbookref18_Customerl6 : AC := (.keep [] [(1, false), (3, false)] [(.loc 1 0, false)] [] [] (.seq (.seq (.ops pcashbookref18_Customerr2) (.cond (.tmp 8) .skip (.exit 0))) (.seq (.pass 1 (.seq (.ops pcashbookref18_Customerr3) (.cond (.tmp 22) (.seq (.ops pcashbookref18_Customerr4) (.keep [] [(2, false)] [] [.loc 1 0] [] .ret)) .skip))) (.ops pcashbookref18_Customerr5))))
def pcashbookref18_Customerr7 : List GOp := [⟨(some 23), none, .fld 0 (.tmp 1)⟩, ⟨(some 24), none, .load false 1 (.tmp 23)⟩, ⟨(some 25), none, .bin false .geq (.tmp 24) (.cst (.int .i64 1))⟩, ⟨(some 26), none, .mov (.tmp 25)⟩, ⟨(some 27), (some (26, true)), .fld 0 (.tmp 1)⟩, ⟨(some 28), (some (26, true)), .load false 1 (.tmp 27)⟩, ⟨(some 29), (some (26, true)), .bin false .leq (.tmp 28) (.cst (.int .i64 999))⟩, ⟨(some 30), none, .pick (.tmp 26) (.tmp 29) (.cst (.bool false))⟩, ⟨(some 31), none, .mov (.tmp 30)⟩, ⟨(some 32), (some (31, true)), .fld 1 (.tmp 1)⟩, ⟨(some 33), (some (31, true)), .load false 1 (.tmp 32)⟩, ⟨(some 34), (some (31, true)), .len true (.tmp 33)⟩, ⟨(some 35), (some (31, true)), .bin false .geq (.tmp 34) (.cst (.int .i64 1))⟩, ⟨(some 36), none, .pick (.tmp 31) (.tmp 35) (.cst (.bool false))⟩, ⟨(some 37), none, .mov (.tmp 36)⟩, ⟨(some 38), (some (37, true)), .fld 1 (.tmp 1)⟩, ⟨(some 39), (some (37, true)), .load false 1 (.tmp 38)⟩, ⟨(some 40), (some (37, true)), .len true (.tmp 39)⟩, ⟨(some 41), (some (37, true)), .bin false .leq (.tmp 40) (.cst (.int .i64 32))⟩, ⟨(some 42), none, .pick (.tmp 37) (.tmp 41) (.cst (.bool false))⟩, ⟨(some 43), none, .mov (.tmp 42)⟩, ⟨(some 44), (some (43, true)), .fld 2 (.tmp 1)⟩, ⟨(some 45), (some (43, true)), .load false 1 (.tmp 44)⟩, ⟨(some 46), (some (43, true)), .bin false .geq (.tmp 45) (.cst (.int .i64 0))⟩, ⟨(some 47), none, .pick (.tmp 43) (.tmp 46) (.cst (.bool false))⟩, ⟨(some 48), none, .mov (.tmp 47)⟩, ⟨(some 49), (some (48, true)), .fld 2 (.tmp 1)⟩, ⟨(some 50), (some (48, true)), .load false 1 (.tmp 49)⟩, ⟨(some 51), (some (48, true)), .bin false .leq (.tmp 50) (.cst (.int .i64 3))⟩, ⟨(some 52), none, .pick (.tmp 48) (.tmp 51) (.cst (.bool false))⟩, ⟨(some 2), none, .mov (.tmp 52)⟩]
def pcashbookref18_Customerb : AC := (.seq (.ops pcashbookref18_Customerr0) (.seq (.seq (.ops pcashbookref18_Customerr1) (.block 0 (.loop [1, 3] [] pcashbookref18_Customerl6))) (.seq (.keep [] [(1, false)] [(.loc 1 0, false)] [] [] (.ops pcashbookref18_Customerr7)) (.keep [] [(2, false)] [] [.loc 1 0] [] .ret))))
def pcashbookref18_Customer : Fd := ⟨1, [.tmp 2], [], pcashbookref18_Customerb⟩
theorem pcashbookref18_Customer_ag : agreeF Tryz.prog Tryz.f86 pcashbookref18_Customer = true := by kernel_rfl
theorem cashbookref18_Customer_ok {x1 : T_api_Customer} {r : Bool} (h : cashbookref18_Customer x1 = some r) : Contract Tryz.prog 86 [.pv (T_api_Customer.pv x1)] [] ⟨.pv (.bool r), [], []⟩ := by
 refine contract_fin hm Tryz.func86 pcashbookref18_Customer_ag (by kernel_rfl) ?_
 unfold cashbookref18_Customer at h
 refine W.seqOps (RunR.all (by kernel_rfl)) ?_
 refine W.assoc ?_
 refine W.seqOps (RunR.all (by kernel_rfl)) ?_
 replace h := bindS h
 obtain ⟨j2, hj2, h⟩ := h
 refine W.joinOut (j := j2) (o := r) (fun p σ => σ.tidy [] [(1, false)] [(.loc 1 0, false)] [] [] = ⟨[(1, .ptr (.loc 1 0) 0)], [(.loc 1 0, .box [.pv (.int .i64 x1.f_ID), .pv (.str x1.f_Name), .pv (.int .i64 x1.f_Kind)])]⟩) ?_ (fun p σj2 hp hsj2 => ?_) (fun p hp => ?_)
 ·refine W.blockLoopO (fun q σ => ((σ.forget [1, 3]).killAll []).tidy [] [(1, false), (3, false)] [(.loc 1 0, false)] [] [] = ⟨[(1, .ptr (.loc 1 0) 0), (3, .pv (.int .i64 q))], [(.loc 1 0, .box [.pv (.int .i64 x1.f_ID), .pv (.str x1.f_Name), .pv (.int .i64 x1.f_Kind)])]⟩) hj2 ?_ ?_
  ·show _ = _
   kernel_rfl
  ·intro i3 σj2 oj2 hJj2 h
   refine W.keep hJj2 ?_
   refine W.assoc ?_
   refine W.seqOps (RunR.all (by kernel_rfl)) ?_
   refine W.seqCond (t := decide (i3 < (x1.f_Name.length : Int))) (by kernel_rfl) h (fun hc h' => ?_) (fun hc h' => ?_)
   ·replace h := h'
    refine W.seqSkip ?_
    refine W.seqPass ?_
    refine W.assoc ?_
    replace h := bindS h
    obtain ⟨x4, hx4, h⟩ := h
    replace h := bindS h
    obtain ⟨c5, hc5, h⟩ := h
    replace h := bindS h
    obtain ⟨x6, hx6, h⟩ := h
    refine W.seqOps (RunR.stat 3 (by kernel_rfl) (RunR.dyn (Step.sidx (s := x1.f_Name) (n := i3) (m := x4) (k := .i64) (by kernel_rfl) (by kernel_rfl) hx4) (RunR.stat 1 (by kernel_rfl) (RunR.dyn (Step.name (f := eBool) (e := decide (x4 < 32)) (c := c5) (by kernel_rfl) hc5) (RunR.puts 3 [(19, (bif !c5 then (.pv (.int .i64 i3)) else (.tup []))), (18, (bif !c5 then (.pv (.str x1.f_Name)) else (.tup []))), (17, (bif !c5 then (.ptr (.loc 1 0) 1) else (.tup [])))] (by cases c5 <;> kernel_rfl) (RunR.dyn (Step.gdG (!c5) (by kernel_rfl) (by
       cases c5
       ·exact .inr ⟨by kernel_rfl, by kernel_rfl, Step.sidx (s := x1.f_Name) (n := i3) (m := x6) (k := .i64) (by kernel_rfl) (by kernel_rfl) hx6⟩
       ·exact .inl ⟨by kernel_rfl, by kernel_rfl⟩)) (RunR.puts 2 [(22, .pv (.bool (c5 || (decide (x6 > 126))))), (21, (bif !c5 then (.pv (.bool (decide (x6 > 126)))) else (.tup [])))] (by cases c5 <;> kernel_rfl) ((.nil _))))))))) ?_
    refine W.seqCond (t := (c5 || (decide (x6 > 126)))) (by kernel_rfl) h (fun hc h' => ?_) (fun hc h' => ?_)
    ·replace h := h'
     refine W.assoc ?_
     refine W.seqOps (RunR.all (by kernel_rfl)) ?_
     refine W.seqKeep rfl ?_
     cases h
     exact W.seqRet ((outw_out ret_ne (bout_o ret_ne ret_ne' (fun e => by subst e; exact (fin_ret (by kernel_rfl))))))
    ·replace h := h'
     refine W.seqSkip ?_
     refine W.ops (RunR.all (by kernel_rfl)) ?_
     cases h
     exact (outw_in (by (show _ = _); kernel_rfl))
   ·replace h := h'
    cases h
    exact W.seqExit ((outw_out exit_ne (bout_x (by (show _ = _); kernel_rfl))))
 ·subst hp
  obtain ⟨⟩ := p
  refine W.seqKeep hsj2 ?_
  replace h := bindS h
  obtain ⟨c7, hc7, h⟩ := h
  replace h := bindS h
  obtain ⟨c8, hc8, h⟩ := h
  replace h := bindS h
  obtain ⟨c9, hc9, h⟩ := h
  replace h := bindS h
  obtain ⟨c10, hc10, h⟩ := h
  replace h := bindS h
  obtain ⟨c11, hc11, h⟩ := h
  refine W.seqOps (RunR.stat 3 (by kernel_rfl) (RunR.dyn (Step.name (f := eBool) (e := decide (x1.f_ID ≥ 1)) (c := c7) (by kernel_rfl) hc7) (RunR.puts 4 [(30, .pv (.bool (c7 && (decide (x1.f_ID ≤ 999))))), (29, (bif c7 then (.pv (.bool (decide (x1.f_ID ≤ 999)))) else (.tup []))), (28, (bif c7 then (.pv (.int .i64 x1.f_ID)) else (.tup []))), (27, (bif c7 then (.ptr (.loc 1 0) 0) else (.tup [])))] (by cases c7 <;> kernel_rfl) (RunR.dyn (Step.name (f := eBool) (e := (c7 && (decide (x1.f_ID ≤ 999)))) (c := c8) (by kernel_rfl) hc8) (RunR.puts 5 [(36, .pv (.bool (c8 && (decide ((x1.f_Name.length : Int) ≥ 1))))), (35, (bif c8 then (.pv (.bool (decide ((x1.f_Name.length : Int) ≥ 1)))) else (.tup []))), (34, (bif c8 then (.pv (.int .i64 (x1.f_Name.length : Int))) else (.tup []))), (33, (bif c8 then (.pv (.str x1.f_Name)) else (.tup []))), (32, (bif c8 then (.ptr (.loc 1 0) 1) else (.tup [])))] (by cases c8 <;> kernel_rfl) (RunR.dyn (Step.name (f := eBool) (e := (c8 && (decide ((x1.f_Name.length : Int) ≥ 1)))) (c := c9) (by kernel_rfl) hc9) (RunR.puts 5 [(42, .pv (.bool (c9 && (decide ((x1.f_Name.length : Int) ≤ 32))))), (41, (bif c9 then (.pv (.bool (decide ((x1.f_Name.length : Int) ≤ 32)))) else (.tup []))), (40, (bif c9 then (.pv (.int .i64 (x1.f_Name.length : Int))) else (.tup []))), (39, (bif c9 then (.pv (.str x1.f_Name)) else (.tup []))), (38, (bif c9 then (.ptr (.loc 1 0) 1) else (.tup [])))] (by cases c9 <;> kernel_rfl) (RunR.dyn (Step.name (f := eBool) (e := (c9 && (decide ((x1.f_Name.length : Int) ≤ 32)))) (c := c10) (by kernel_rfl) hc10) (RunR.puts 4 [(47, .pv (.bool (c10 && (decide (x1.f_Kind ≥ 0))))), (46, (bif c10 then (.pv (.bool (decide (x1.f_Kind ≥ 0)))) else (.tup []))), (45, (bif c10 then (.pv (.int .i64 x1.f_Kind)) else (.tup []))), (44, (bif c10 then (.ptr (.loc 1 0) 2) else (.tup [])))] (by cases c10 <;> kernel_rfl) (RunR.dyn (Step.name (f := eBool) (e := (c10 && (decide (x1.f_Kind ≥ 0)))) (c := c11) (by kernel_rfl) hc11) (RunR.puts 4 [(52, .pv (.bool (c11 && (decide (x1.f_Kind ≤ 3))))), (51, (bif c11 then (.pv (.bool (decide (x1.f_Kind ≤ 3)))) else (.tup []))), (50, (bif c11 then (.pv (.int .i64 x1.f_Kind)) else (.tup []))), (49, (bif c11 then (.ptr (.loc 1 0) 2) else (.tup [])))] (by cases c11 <;> kernel_rfl) (RunR.all (by kernel_rfl))))))))))))) ?_
  refine W.keep rfl ?_
  cases h
  exact W.ret ((fin_ret (by kernel_rfl)))
 ·subst hp
  exact Option.some.inj h
def pcashbookref04_Rightr0 : List GOp := [⟨(some 2), none, .mov (.cst (.bool false))⟩]
def pcashbookref04_Rightr1 : List GOp := [⟨(some 3), none, .mov (.tmp 0)⟩, ⟨(some 4), none, .bin false .geq (.tmp 3) (.cst (.int .i32 (-50000)))⟩, ⟨(some 5), none, .mov (.tmp 4)⟩, ⟨(some 6), (some (5, true)), .mov (.tmp 0)⟩, ⟨(some 7), (some (5, true)), .bin false .leq (.tmp 6) (.cst (.int .i32 50000))⟩, ⟨(some 8), none, .pick (.tmp 5) (.tmp 7) (.cst (.bool false))⟩, ⟨(some 2), none, .mov (.tmp 8)⟩]
def pcashbookref04_Rightb : AC := (.seq (.ops pcashbookref04_Rightr0) (.seq (.ops pcashbookref04_Rightr1) (.keep [] [(2, false)] [] [] [] .ret)))
def pcashbookref04_Right : Fd := ⟨1, [.tmp 2], [], pcashbookref04_Rightb⟩
theorem pcashbookref04_Right_ag : agreeF Tryz.prog Tryz.f41 pcashbookref04_Right = true := by kernel_rfl
theorem cashbookref04_Right_ok {d1 : Int} {r : Bool} (h : cashbookref04_Right d1 = some r) : Contract Tryz.prog 41 [.pv (.int .i32 d1)] [] ⟨.pv (.bool r), [], []⟩ := by
 refine contract_fin hm Tryz.func41 pcashbookref04_Right_ag (by kernel_rfl) ?_
 unfold cashbookref04_Right at h
 refine W.seqOps (RunR.all (by kernel_rfl)) ?_
 replace h := bindS h
 obtain ⟨c2, hc2, h⟩ := h
 refine W.seqOps (RunR.stat 2 (by kernel_rfl) (RunR.dyn (Step.name (f := eBool) (e := decide (d1 ≥ (-50000))) (c := c2) (by kernel_rfl) hc2) (RunR.puts 3 [(8, .pv (.bool (c2 && (decide (d1 ≤ 50000))))), (7, (bif c2 then (.pv (.bool (decide (d1 ≤ 50000)))) else (.tup []))), (6, (bif c2 then (.pv (.int .i32 d1)) else (.tup [])))] (by cases c2 <;> kernel_rfl) (RunR.all (by kernel_rfl))))) ?_
 refine W.keep rfl ?_
 cases h
 exact W.ret ((fin_ret (by kernel_rfl)))
def pcashbookref18_Recordr0 : List GOp := [⟨(some 1), none, .box (.tmp 0)⟩, ⟨(some 2), none, .mov (.cst (.bool false))⟩]
def pcashbookref18_Recordr1 : List GOp := [⟨(some 3), none, .fld 0 (.tmp 1)⟩, ⟨(some 4), none, .load false 1 (.tmp 3)⟩, ⟨(some 5), none, .bin false .lss (.tmp 4) (.cst (.int .i64 1))⟩, ⟨(some 6), none, .mov (.tmp 5)⟩, ⟨(some 7), (some (6, false)), .fld 0 (.tmp 1)⟩, ⟨(some 8), (some (6, false)), .load false 1 (.tmp 7)⟩, ⟨(some 9), (some (6, false)), .bin false .gtr (.tmp 8) (.cst (.int .i64 999))⟩, ⟨(some 10), none, .pick (.tmp 6) (.cst (.bool true)) (.tmp 9)⟩, ⟨(some 11), none, .mov (.tmp 10)⟩, ⟨(some 12), (some (11, false)), .fld 1 (.tmp 1)⟩, ⟨(some 13), (some (11, false)), .load false 1 (.tmp 12)⟩, ⟨(some 14), (some (11, false)), .bin false .lss (.tmp 13) (.cst (.int .i64 0))⟩, ⟨(some 15), none, .pick (.tmp 11) (.cst (.bool true)) (.tmp 14)⟩, ⟨(some 16), none, .mov (.tmp 15)⟩, ⟨(some 17), (some (16, false)), .fld 1 (.tmp 1)⟩, ⟨(some 18), (some (16, false)), .load false 1 (.tmp 17)⟩, ⟨(some 19), (some (16, false)), .bin false .gtr (.tmp 18) (.cst (.int .i64 3))⟩, ⟨(some 20), none, .pick (.tmp 16) (.cst (.bool true)) (.tmp 19)⟩, ⟨(some 21), none, .mov (.tmp 20)⟩, ⟨(some 22), (some (21, false)), .fld 2 (.tmp 1)⟩, ⟨(some 23), (some (21, false)), .load false 1 (.tmp 22)⟩, ⟨(some 24), (some (21, false)), .bin false .lss (.tmp 23) (.cst (.int .i64 0))⟩, ⟨(some 25), none, .pick (.tmp 21) (.cst (.bool true)) (.tmp 24)⟩, ⟨(some 26), none, .mov (.tmp 25)⟩, ⟨(some 27), (some (26, false)), .fld 2 (.tmp 1)⟩, ⟨(some 28), (some (26, false)), .load false 1 (.tmp 27)⟩, ⟨(some 29), (some (26, false)), .bin false .gtr (.tmp 28) (.cst (.int .i64 3))⟩, ⟨(some 30), none, .pick (.tmp 26) (.cst (.bool true)) (.tmp 29)⟩, ⟨(some 31), none, .mov (.tmp 30)⟩, ⟨(some 32), (some (31, false)), .fld 3 (.tmp 1)⟩, ⟨(some 33), (some (31, false)), .load false 1 (.tmp 32)⟩, ⟨(some 34), (some (31, false)), .bin false .lss (.tmp 33) (.cst (.int .i64 0))⟩, ⟨(some 35), none, .pick (.tmp 31) (.cst (.bool true)) (.tmp 34)⟩, ⟨(some 36), none, .mov (.tmp 35)⟩, ⟨(some 37), (some (36, false)), .fld 3 (.tmp 1)⟩, ⟨(some 38), (some (36, false)), .load false 1 (.tmp 37)⟩, ⟨(some 39), (some (36, false)), .bin false .gtr (.tmp 38) (.cst (.int .i64 999))⟩, ⟨(some 40), none, .pick (.tmp 36) (.cst (.bool true)) (.tmp 39)⟩, ⟨(some 41), none, .mov (.tmp 40)⟩, ⟨(some 42), (some (41, false)), .fld 4 (.tmp 1)⟩, ⟨(some 43), (some (41, false)), .load false 1 (.tmp 42)⟩, ⟨(some 44), (some (41, false)), .bin false .lss (.tmp 43) (.cst (.int .i64 0))⟩, ⟨(some 45), none, .pick (.tmp 41) (.cst (.bool true)) (.tmp 44)⟩, ⟨(some 46), none, .mov (.tmp 45)⟩, ⟨(some 47), (some (46, false)), .fld 4 (.tmp 1)⟩, ⟨(some 48), (some (46, false)), .load false 1 (.tmp 47)⟩, ⟨(some 49), (some (46, false)), .bin false .gtr (.tmp 48) (.cst (.int .i64 20))⟩, ⟨(some 50), none, .pick (.tmp 46) (.cst (.bool true)) (.tmp 49)⟩, ⟨(some 51), none, .mov (.tmp 50)⟩, ⟨(some 52), (some (51, false)), .fld 5 (.tmp 1)⟩, ⟨(some 53), (some (51, false)), .load false 1 (.tmp 52)⟩, ⟨(some 54), (some (51, false)), .bin false .lss (.tmp 53) (.cst (.int .i64 0))⟩, ⟨(some 55), none, .pick (.tmp 51) (.cst (.bool true)) (.tmp 54)⟩, ⟨(some 56), none, .mov (.tmp 55)⟩, ⟨(some 57), (some (56, false)), .fld 5 (.tmp 1)⟩, ⟨(some 58), (some (56, false)), .load false 1 (.tmp 57)⟩, ⟨(some 59), (some (56, false)), .bin false .gtr (.tmp 58) (.cst (.int .i64 3))⟩, ⟨(some 60), none, .pick (.tmp 56) (.cst (.bool true)) (.tmp 59)⟩]
def pcashbookref18_Recordr2 : List GOp := [⟨(some 2), none, .mov (.cst (.bool false))⟩]
def pcashbookref18_Recordr3 : List GOp := [⟨(some 61), none, .fld 6 (.tmp 1)⟩, ⟨(some 62), none, .load false 1 (.tmp 61)⟩, ⟨(some 63), none, .call 0 0 (.cst (.fn 41)) [(.tmp 62)] [] []⟩, ⟨(some 64), none, .mov (.tmp 63)⟩, ⟨(some 65), (some (64, true)), .fld 7 (.tmp 1)⟩, ⟨(some 66), (some (64, true)), .load false 1 (.tmp 65)⟩, ⟨(some 67), (some (64, true)), .call 0 0 (.cst (.fn 41)) [(.tmp 66)] [] []⟩, ⟨(some 68), none, .pick (.tmp 64) (.tmp 67) (.cst (.bool false))⟩, ⟨(some 69), none, .mov (.tmp 68)⟩, ⟨(some 70), (some (69, true)), .fld 7 (.tmp 1)⟩, ⟨(some 71), (some (69, true)), .load false 1 (.tmp 70)⟩, ⟨(some 72), (some (69, true)), .fld 6 (.tmp 1)⟩, ⟨(some 73), (some (69, true)), .load false 1 (.tmp 72)⟩, ⟨(some 74), (some (69, true)), .bin false .geq (.tmp 71) (.tmp 73)⟩, ⟨(some 75), none, .pick (.tmp 69) (.tmp 74) (.cst (.bool false))⟩, ⟨(some 2), none, .mov (.tmp 75)⟩]
def pcashbookref18_Recordb : AC := (.seq (.ops pcashbookref18_Recordr0) (.seq (.seq (.ops pcashbookref18_Recordr1) (.cond (.tmp 60) (.seq (.ops pcashbookref18_Recordr2) (.keep [] [(2, false)] [] [.loc 1 0] [] .ret)) .skip)) (.seq (.ops pcashbookref18_Recordr3) (.keep [] [(2, false)] [] [.loc 1 0] [] .ret))))
def pcashbookref18_Record : Fd := ⟨1, [.tmp 2], [], pcashbookref18_Recordb⟩
theorem pcashbookref18_Record_ag : agreeF Tryz.prog Tryz.f87 pcashbookref18_Record = true := by kernel_rfl
theorem cashbookref18_Record_ok {r1 : T_api_Record} {r : Bool} (h : cashbookref18_Record r1 = some r) : Contract Tryz.prog 87 [.pv (T_api_Record.pv r1)] [] ⟨.pv (.bool r), [], []⟩ := by
 refine contract_fin hm Tryz.func87 pcashbookref18_Record_ag (by kernel_rfl) ?_
 unfold cashbookref18_Record at h
 refine W.seqOps (RunR.all (by kernel_rfl)) ?_
 refine W.assoc ?_
 replace h := bindS h
 obtain ⟨c2, hc2, h⟩ := h
 replace h := bindS h
 obtain ⟨c3, hc3, h⟩ := h
 replace h := bindS h
 obtain ⟨c4, hc4, h⟩ := h
 replace h := bindS h
 obtain ⟨c5, hc5, h⟩ := h
 replace h := bindS h
 obtain ⟨c6, hc6, h⟩ := h
 replace h := bindS h
 obtain ⟨c7, hc7, h⟩ := h
 replace h := bindS h
 obtain ⟨c8, hc8, h⟩ := h
 replace h := bindS h
 obtain ⟨c9, hc9, h⟩ := h
 replace h := bindS h
 obtain ⟨c10, hc10, h⟩ := h
 replace h := bindS h
 obtain ⟨c11, hc11, h⟩ := h
 replace h := bindS h
 obtain ⟨c12, hc12, h⟩ := h
 refine W.seqOps (RunR.stat 3 (by kernel_rfl) (RunR.dyn (Step.name (f := eBool) (e := decide (r1.f_Acc < 1)) (c := c2) (by kernel_rfl) hc2) (RunR.puts 4 [(10, .pv (.bool (c2 || (decide (r1.f_Acc > 999))))), (9, (bif !c2 then (.pv (.bool (decide (r1.f_Acc > 999)))) else (.tup []))), (8, (bif !c2 then (.pv (.int .i64 r1.f_Acc)) else (.tup []))), (7, (bif !c2 then (.ptr (.loc 1 0) 0) else (.tup [])))] (by cases c2 <;> kernel_rfl) (RunR.dyn (Step.name (f := eBool) (e := (c2 || (decide (r1.f_Acc > 999)))) (c := c3) (by kernel_rfl) hc3) (RunR.puts 4 [(15, .pv (.bool (c3 || (decide (r1.f_Kind < 0))))), (14, (bif !c3 then (.pv (.bool (decide (r1.f_Kind < 0)))) else (.tup []))), (13, (bif !c3 then (.pv (.int .i64 r1.f_Kind)) else (.tup []))), (12, (bif !c3 then (.ptr (.loc 1 0) 1) else (.tup [])))] (by cases c3 <;> kernel_rfl) (RunR.dyn (Step.name (f := eBool) (e := (c3 || (decide (r1.f_Kind < 0)))) (c := c4) (by kernel_rfl) hc4) (RunR.puts 4 [(20, .pv (.bool (c4 || (decide (r1.f_Kind > 3))))), (19, (bif !c4 then (.pv (.bool (decide (r1.f_Kind > 3)))) else (.tup []))), (18, (bif !c4 then (.pv (.int .i64 r1.f_Kind)) else (.tup []))), (17, (bif !c4 then (.ptr (.loc 1 0) 1) else (.tup [])))] (by cases c4 <;> kernel_rfl) (RunR.dyn (Step.name (f := eBool) (e := (c4 || (decide (r1.f_Kind > 3)))) (c := c5) (by kernel_rfl) hc5) (RunR.puts 4 [(25, .pv (.bool (c5 || (decide (r1.f_Cur < 0))))), (24, (bif !c5 then (.pv (.bool (decide (r1.f_Cur < 0)))) else (.tup []))), (23, (bif !c5 then (.pv (.int .i64 r1.f_Cur)) else (.tup []))), (22, (bif !c5 then (.ptr (.loc 1 0) 2) else (.tup [])))] (by cases c5 <;> kernel_rfl) (RunR.dyn (Step.name (f := eBool) (e := (c5 || (decide (r1.f_Cur < 0)))) (c := c6) (by kernel_rfl) hc6) (RunR.puts 4 [(30, .pv (.bool (c6 || (decide (r1.f_Cur > 3))))), (29, (bif !c6 then (.pv (.bool (decide (r1.f_Cur > 3)))) else (.tup []))), (28, (bif !c6 then (.pv (.int .i64 r1.f_Cur)) else (.tup []))), (27, (bif !c6 then (.ptr (.loc 1 0) 2) else (.tup [])))] (by cases c6 <;> kernel_rfl) (RunR.dyn (Step.name (f := eBool) (e := (c6 || (decide (r1.f_Cur > 3)))) (c := c7) (by kernel_rfl) hc7) (RunR.puts 4 [(35, .pv (.bool (c7 || (decide (r1.f_Customer < 0))))), (34, (bif !c7 then (.pv (.bool (decide (r1.f_Customer < 0)))) else (.tup []))), (33, (bif !c7 then (.pv (.int .i64 r1.f_Customer)) else (.tup []))), (32, (bif !c7 then (.ptr (.loc 1 0) 3) else (.tup [])))] (by cases c7 <;> kernel_rfl) (RunR.dyn (Step.name (f := eBool) (e := (c7 || (decide (r1.f_Customer < 0)))) (c := c8) (by kernel_rfl) hc8) (RunR.puts 4 [(40, .pv (.bool (c8 || (decide (r1.f_Customer > 999))))), (39, (bif !c8 then (.pv (.bool (decide (r1.f_Customer > 999)))) else (.tup []))), (38, (bif !c8 then (.pv (.int .i64 r1.f_Customer)) else (.tup []))), (37, (bif !c8 then (.ptr (.loc 1 0) 3) else (.tup [])))] (by cases c8 <;> kernel_rfl) (RunR.dyn (Step.name (f := eBool) (e := (c8 || (decide (r1.f_Customer > 999)))) (c := c9) (by kernel_rfl) hc9) (RunR.puts 4 [(45, .pv (.bool (c9 || (decide (r1.f_Product < 0))))), (44, (bif !c9 then (.pv (.bool (decide (r1.f_Product < 0)))) else (.tup []))), (43, (bif !c9 then (.pv (.int .i64 r1.f_Product)) else (.tup []))), (42, (bif !c9 then (.ptr (.loc 1 0) 4) else (.tup [])))] (by cases c9 <;> kernel_rfl) (RunR.dyn (Step.name (f := eBool) (e := (c9 || (decide (r1.f_Product < 0)))) (c := c10) (by kernel_rfl) hc10) (RunR.puts 4 [(50, .pv (.bool (c10 || (decide (r1.f_Product > 20))))), (49, (bif !c10 then (.pv (.bool (decide (r1.f_Product > 20)))) else (.tup []))), (48, (bif !c10 then (.pv (.int .i64 r1.f_Product)) else (.tup []))), (47, (bif !c10 then (.ptr (.loc 1 0) 4) else (.tup [])))] (by cases c10 <;> kernel_rfl) (RunR.dyn (Step.name (f := eBool) (e := (c10 || (decide (r1.f_Product > 20)))) (c := c11) (by kernel_rfl) hc11) (RunR.puts 4 [(55, .pv (.bool (c11 || (decide (r1.f_Partition < 0))))), (54, (bif !c11 then (.pv (.bool (decide (r1.f_Partition < 0)))) else (.tup []))), (53, (bif !c11 then (.pv (.int .i64 r1.f_Partition)) else (.tup []))), (52, (bif !c11 then (.ptr (.loc 1 0) 5) else (.tup [])))] (by cases c11 <;> kernel_rfl) (RunR.dyn (Step.name (f := eBool) (e := (c11 || (decide (r1.f_Partition < 0)))) (c := c12) (by kernel_rfl) hc12) (RunR.puts 4 [(60, .pv (.bool (c12 || (decide (r1.f_Partition > 3))))), (59, (bif !c12 then (.pv (.bool (decide (r1.f_Partition > 3)))) else (.tup []))), (58, (bif !c12 then (.pv (.int .i64 r1.f_Partition)) else (.tup []))), (57, (bif !c12 then (.ptr (.loc 1 0) 5) else (.tup [])))] (by cases c12 <;> kernel_rfl) ((.nil _))))))))))))))))))))))))) ?_
 refine W.seqCond (t := (c12 || (decide (r1.f_Partition > 3)))) (by kernel_rfl) h (fun hc h' => ?_) (fun hc h' => ?_)
 ·replace h := h'
  refine W.assoc ?_
  refine W.seqOps (RunR.all (by kernel_rfl)) ?_
  refine W.seqKeep rfl ?_
  cases h
  exact W.seqRet ((fin_ret (by kernel_rfl)))
 ·replace h := h'
  refine W.seqSkip ?_
  replace h := bindS h
  obtain ⟨x13, hx13, h⟩ := h
  replace h := bindS h
  obtain ⟨x14, hx14, h⟩ := h
  replace h := bindS h
  obtain ⟨c15, hc15, h⟩ := h
  refine W.seqOps (RunR.stat 2 (by kernel_rfl) (RunR.cons (tab_cons (on := true) (fun _ => cashbookref04_Right_ok hx13) tab_nil) (Step.call0 (g := 41) (caps := []) (v := .pv (.bool x13)) (by kernel_rfl) (by kernel_rfl) (by kernel_rfl) (tab_hit (by kernel_rfl)) (by kernel_rfl)) (RunR.stat 1 (by kernel_rfl) (RunR.puts 2 [(66, (bif x13 then (.pv (.int .i32 r1.f_To)) else (.tup []))), (65, (bif x13 then (.ptr (.loc 1 0) 7) else (.tup [])))] (by cases x13 <;> kernel_rfl) (RunR.cons (tab_cons (on := x13) (fun hg => cashbookref04_Right_ok (gdO_at hg hx14)) tab_nil) (Step.gdG x13 (by kernel_rfl) (by
     cases x13
     ·exact .inl ⟨by kernel_rfl, by kernel_rfl⟩
     ·exact .inr ⟨by kernel_rfl, by kernel_rfl, Step.call0 (g := 41) (caps := []) (v := .pv (.bool x14)) (by kernel_rfl) (by kernel_rfl) (by kernel_rfl) (tab_hit (by kernel_rfl)) (by kernel_rfl)⟩)) (RunR.puts 1 [(68, .pv (.bool (x13 && x14)))] (by cases x13 <;> kernel_rfl) (RunR.dyn (Step.name (f := eBool) (e := (x13 && x14)) (c := c15) (by kernel_rfl) hc15) (RunR.puts 6 [(75, .pv (.bool (c15 && (decide (r1.f_To ≥ r1.f_From))))), (74, (bif c15 then (.pv (.bool (decide (r1.f_To ≥ r1.f_From)))) else (.tup []))), (73, (bif c15 then (.pv (.int .i32 r1.f_From)) else (.tup []))), (72, (bif c15 then (.ptr (.loc 1 0) 6) else (.tup []))), (71, (bif c15 then (.pv (.int .i32 r1.f_To)) else (.tup []))), (70, (bif c15 then (.ptr (.loc 1 0) 7) else (.tup [])))] (by cases c15 <;> kernel_rfl) (RunR.all (by kernel_rfl)))))))))) ?_
  refine W.keep rfl ?_
  cases h
  exact W.ret ((fin_ret (by kernel_rfl)))
def pcashbookref18_Ownr0 : List GOp := [⟨(some 1), none, .box (.tmp 0)⟩, ⟨(some 2), none, .mov (.cst (.bool false))⟩]
def pcashbookref18_Ownr1 : List GOp := [⟨(some 3), none, .fld 1 (.tmp 1)⟩, ⟨(some 4), none, .load false 1 (.tmp 3)⟩, ⟨(some 5), none, .bin false .lss (.tmp 4) (.cst (.int .i64 2))⟩, ⟨(some 6), none, .mov (.tmp 5)⟩, ⟨(some 7), (some (6, false)), .fld 3 (.tmp 1)⟩, ⟨(some 8), (some (6, false)), .load false 1 (.tmp 7)⟩, ⟨(some 9), (some (6, false)), .bin false .eql (.tmp 8) (.cst (.int .i64 0))⟩, ⟨(some 10), (some (6, false)), .mov (.tmp 9)⟩, ⟨(some 11), (some (10, true)), .fld 4 (.tmp 1)⟩, ⟨(some 12), (some (10, true)), .load false 1 (.tmp 11)⟩, ⟨(some 13), (some (10, true)), .bin false .eql (.tmp 12) (.cst (.int .i64 0))⟩, ⟨(some 14), (some (6, false)), .pick (.tmp 10) (.tmp 13) (.cst (.bool false))⟩, ⟨(some 15), none, .pick (.tmp 6) (.cst (.bool true)) (.tmp 14)⟩, ⟨(some 2), none, .mov (.tmp 15)⟩]
def pcashbookref18_Ownb : AC := (.seq (.ops pcashbookref18_Ownr0) (.seq (.ops pcashbookref18_Ownr1) (.keep [] [(2, false)] [] [.loc 1 0] [] .ret)))
def pcashbookref18_Own : Fd := ⟨1, [.tmp 2], [], pcashbookref18_Ownb⟩
theorem pcashbookref18_Own_ag : agreeF Tryz.prog Tryz.f88 pcashbookref18_Own = true := by kernel_rfl
theorem cashbookref18_Own_ok {r1 : T_api_Record} {r : Bool} (h : cashbookref18_Own r1 = some r) : Contract Tryz.prog 88 [.pv (T_api_Record.pv r1)] [] ⟨.pv (.bool r), [], []⟩ := by
 refine contract_fin hm Tryz.func88 pcashbookref18_Own_ag (by kernel_rfl) ?_
 unfold cashbookref18_Own at h
 refine W.seqOps (RunR.all (by kernel_rfl)) ?_
 replace h := bindS h
 obtain ⟨c2, hc2, h⟩ := h
 replace h := bindS h
 obtain ⟨c3, hc3, h⟩ := h
 refine W.seqOps (RunR.stat 3 (by kernel_rfl) (RunR.dyn (Step.name (f := eBool) (e := decide (r1.f_Kind < 2)) (c := c2) (by kernel_rfl) hc2) (RunR.puts 3 [(9, (bif !c2 then (.pv (.bool (r1.f_Customer == 0))) else (.tup []))), (8, (bif !c2 then (.pv (.int .i64 r1.f_Customer)) else (.tup []))), (7, (bif !c2 then (.ptr (.loc 1 0) 3) else (.tup [])))] (by cases c2 <;> kernel_rfl) (RunR.dyn (Step.gdG (!c2) (by kernel_rfl) (by
    cases c2
    ·exact .inr ⟨by kernel_rfl, by kernel_rfl, Step.name (f := eBool) (e := (r1.f_Customer == 0)) (c := c3) (by kernel_rfl) hc3⟩
    ·exact .inl ⟨by kernel_rfl, by kernel_rfl⟩)) (RunR.puts 5 [(15, .pv (.bool (c2 || (c3 && (r1.f_Product == 0))))), (14, (bif !c2 then (.pv (.bool (c3 && (r1.f_Product == 0)))) else (.tup []))), (13, (bif ((!c2) && c3) then (.pv (.bool (r1.f_Product == 0))) else (.tup []))), (12, (bif ((!c2) && c3) then (.pv (.int .i64 r1.f_Product)) else (.tup []))), (11, (bif ((!c2) && c3) then (.ptr (.loc 1 0) 4) else (.tup [])))] (by cases c2 <;> cases c3 <;> kernel_rfl) (RunR.all (by kernel_rfl))))))) ?_
 refine W.keep rfl ?_
 cases h
 exact W.ret ((fin_ret (by kernel_rfl)))
def pcashbookref18_PlaceOfr0 : List GOp := [⟨(some 4), none, .mov (.cst (.int .i64 0))⟩]
def pcashbookref18_PlaceOfr1 : List GOp := [⟨(some 7), none, .mov (.tmp 0)⟩, ⟨(some 8), none, .len false (.tmp 7)⟩, ⟨(some 9), none, .mov (.cst (.int .i64 0))⟩]
def pcashbookref18_PlaceOfr2 : List GOp := [⟨(some 10), none, .bin false .lss (.tmp 9) (.tmp 8)⟩]
def pcashbookref18_PlaceOfr3 : List GOp := [⟨(some 11), none, .mov (.tmp 9)⟩, ⟨(some 12), none, .idx 3 (.tmp 7) (.tmp 9)⟩, ⟨(some 13), none, .load true 3 (.tmp 12)⟩, ⟨(some 6), none, .alloc [.pv (.int .i64 0), .pv (.str []), .pv (.int .i64 0)]⟩, ⟨(some 5), none, .mov (.tmp 11)⟩, ⟨none, none, .store 3 (.tmp 6) (.tmp 13)⟩]
def pcashbookref18_PlaceOfr4 : List GOp := [⟨(some 14), none, .fld 0 (.tmp 6)⟩, ⟨(some 15), none, .load false 1 (.tmp 14)⟩, ⟨(some 16), none, .mov (.tmp 1)⟩, ⟨(some 17), none, .bin false .eql (.tmp 15) (.tmp 16)⟩]
def pcashbookref18_PlaceOfr5 : List GOp := [⟨(some 18), none, .mov (.tmp 5)⟩, ⟨(some 4), none, .mov (.tmp 18)⟩]
def pcashbookref18_PlaceOfr6 : List GOp := [⟨(some 19), none, .bin false .add (.tmp 9) (.cst (.int .i64 1))⟩, ⟨(some 9), none, .mov (.tmp 19)⟩]
def pcashbookref18_PlaceOfl7 : AC := (.keep [] [(1, false), (7, false), (8, false), (9, false)] [] [.loc 6 0] [] (.seq (.ops pcashbookref18_PlaceOfr2) (.seq (.cond (.tmp 10) .skip (.exit 0)) (.seq (.pass 1 (.seq (.ops pcashbookref18_PlaceOfr3) (.seq (.ops pcashbookref18_PlaceOfr4) (.cond (.tmp 17) (.seq (.ops pcashbookref18_PlaceOfr5) (.keep [] [(4, false)] [] [.loc 6 0] [] .ret)) .skip)))) (.ops pcashbookref18_PlaceOfr6)))))
def pcashbookref18_PlaceOfr8 : List GOp := [⟨(some 4), none, .mov (.cst (.int .i64 (-1)))⟩]
def pcashbookref18_PlaceOfb : AC := (.seq (.ops pcashbookref18_PlaceOfr0) (.seq (.seq (.ops pcashbookref18_PlaceOfr1) (.block 0 (.loop [1, 7, 8, 9] [] pcashbookref18_PlaceOfl7))) (.seq (.keep [] [] [] [] [] (.ops pcashbookref18_PlaceOfr8)) (.keep [] [(4, false)] [] [.loc 6 0] [] .ret))))
def pcashbookref18_PlaceOf : Fd := ⟨2, [.tmp 4], [], pcashbookref18_PlaceOfb⟩
theorem pcashbookref18_PlaceOf_ag : agreeF Tryz.prog Tryz.f89 pcashbookref18_PlaceOf = true := by kernel_rfl
theorem cashbookref18_PlaceOf_ok {l1 : List T_api_Customer} {id2 : Int} {r : Int} (h : cashbookref18_PlaceOf l1 id2 = some r) : Contract Tryz.prog 89 [.pv (.slice (List.map T_api_Customer.pv l1)), .pv (.int .i64 id2)] [] ⟨.pv (.int .i64 r), [], []⟩ := by
 refine contract_fin hm Tryz.func89 pcashbookref18_PlaceOf_ag (by kernel_rfl) ?_
 unfold cashbookref18_PlaceOf at h
 refine W.seqOps (RunR.all (by kernel_rfl)) ?_
 refine W.assoc ?_
 refine W.seqOps (RunR.stat 1 (by kernel_rfl) (RunR.dyn (Step.lenT (f := T_api_Customer.pv) (l := l1) (by kernel_rfl)) (RunR.all (by kernel_rfl)))) ?_
 replace h := bindS h
 obtain ⟨j3, hj3, h⟩ := h
 refine W.joinOut (j := j3) (o := r) (fun p σ => σ.tidy [] [] [] [] [] = ⟨[], []⟩) ?_ (fun p σj3 hp hsj3 => ?_) (fun p hp => ?_)
 ·refine W.blockLoopO (fun q σ => ((σ.forget [1, 7, 8, 9]).killAll []).tidy [] [(1, false), (7, false), (8, false), (9, false)] [] [.loc 6 0] [] = ⟨[(1, .pv (.int .i64 id2)), (7, .pv (.slice (List.map T_api_Customer.pv l1))), (8, .pv (.int .i64 (l1.length : Int))), (9, .pv (.int .i64 q))], []⟩) hj3 ?_ ?_
  ·show _ = _
   kernel_rfl
  ·intro x4 σj3 oj3 hJj3 h
   refine W.keep hJj3 ?_
   refine W.seqOps (RunR.all (by kernel_rfl)) ?_
   refine W.seqCond (t := decide (x4 < (l1.length : Int))) (by kernel_rfl) h (fun hc h' => ?_) (fun hc h' => ?_)
   ·replace h := h'
    refine W.seqSkip ?_
    refine W.seqPass ?_
    refine W.assoc ?_
    replace h := bindS h
    obtain ⟨x5, hx5, h⟩ := h
    refine W.seqOps (RunR.stat 1 (by kernel_rfl) (RunR.dyn (Step.idxT (f := T_api_Customer.pv) (l := l1) (n := x4) (e := x5) (k := .i64) (by kernel_rfl) (by kernel_rfl) hx5 (by kernel_rfl)) (RunR.all (by kernel_rfl)))) ?_
    refine W.assoc ?_
    refine W.seqOps (RunR.all (by kernel_rfl)) ?_
    refine W.seqCond (t := (x5.f_ID == id2)) (by kernel_rfl) h (fun hc h' => ?_) (fun hc h' => ?_)
    ·replace h := h'
     refine W.assoc ?_
     refine W.seqOps (RunR.all (by kernel_rfl)) ?_
     refine W.seqKeep rfl ?_
     cases h
     exact W.seqRet ((outw_out ret_ne (bout_o ret_ne ret_ne' (fun e => by subst e; exact (fin_ret (by kernel_rfl))))))
    ·replace h := h'
     refine W.seqSkip ?_
     refine W.ops (RunR.all (by kernel_rfl)) ?_
     cases h
     exact (outw_in (by (show _ = _); kernel_rfl))
   ·replace h := h'
    cases h
    exact W.seqExit ((outw_out exit_ne (bout_x (by (show _ = _); kernel_rfl))))
 ·subst hp
  obtain ⟨⟩ := p
  refine W.seqKeep hsj3 ?_
  refine W.seqOps (RunR.all (by kernel_rfl)) ?_
  refine W.keep rfl ?_
  cases h
  exact W.ret ((fin_ret (by kernel_rfl)))
 ·subst hp
  exact Option.some.inj h
def pcashbookref18_Rightr0 : List GOp := [⟨(some 1), none, .box (.tmp 0)⟩, ⟨(some 2), none, .mov (.cst (.bool false))⟩]
def pcashbookref18_Rightr1 : List GOp := [⟨(some 7), none, .fld 0 (.tmp 1)⟩, ⟨(some 8), none, .load false 1 (.tmp 7)⟩, ⟨(some 9), none, .len false (.tmp 8)⟩, ⟨(some 10), none, .mov (.cst (.int .i64 0))⟩]
def pcashbookref18_Rightr2 : List GOp := [⟨(some 11), none, .bin false .lss (.tmp 10) (.tmp 9)⟩]
def pcashbookref18_Rightr3 : List GOp := [⟨(some 12), none, .mov (.tmp 10)⟩, ⟨(some 13), none, .idx 3 (.tmp 8) (.tmp 10)⟩, ⟨(some 14), none, .load true 3 (.tmp 13)⟩, ⟨(some 4), none, .alloc [.pv (.int .i64 0), .pv (.str []), .pv (.int .i64 0)]⟩, ⟨(some 3), none, .mov (.tmp 12)⟩, ⟨none, none, .store 3 (.tmp 4) (.tmp 14)⟩]
def pcashbookref18_Rightr4 : List GOp := [⟨(some 15), none, .load true 3 (.tmp 4)⟩, ⟨(some 16), none, .call 0 0 (.cst (.fn 86)) [(.tmp 15)] [] []⟩, ⟨(some 17), none, .un .not (.tmp 16)⟩, ⟨(some 18), none, .mov (.tmp 17)⟩, ⟨(some 19), (some (18, false)), .mov (.tmp 3)⟩, ⟨(some 20), (some (18, false)), .bin false .gtr (.tmp 19) (.cst (.int .i64 0))⟩, ⟨(some 21), (some (18, false)), .mov (.tmp 20)⟩, ⟨(some 22), (some (21, true)), .fld 0 (.tmp 1)⟩, ⟨(some 23), (some (21, true)), .load false 1 (.tmp 22)⟩, ⟨(some 24), (some (21, true)), .mov (.tmp 3)⟩, ⟨(some 25), (some (21, true)), .bin false .sub (.tmp 24) (.cst (.int .i64 1))⟩, ⟨(some 26), (some (21, true)), .idx 3 (.tmp 23) (.tmp 25)⟩, ⟨(some 27), (some (21, true)), .fld 0 (.tmp 26)⟩, ⟨(some 28), (some (21, true)), .load false 1 (.tmp 27)⟩, ⟨(some 29), (some (21, true)), .fld 0 (.tmp 4)⟩, ⟨(some 30), (some (21, true)), .load false 1 (.tmp 29)⟩, ⟨(some 31), (some (21, true)), .bin false .geq (.tmp 28) (.tmp 30)⟩, ⟨(some 32), (some (18, false)), .pick (.tmp 21) (.tmp 31) (.cst (.bool false))⟩, ⟨(some 33), none, .pick (.tmp 18) (.cst (.bool true)) (.tmp 32)⟩]
def pcashbookref18_Rightr5 : List GOp := [⟨(some 2), none, .mov (.cst (.bool false))⟩]
def pcashbookref18_Rightr6 : List GOp := [⟨(some 34), none, .bin false .add (.tmp 10) (.cst (.int .i64 1))⟩, ⟨(some 10), none, .mov (.tmp 34)⟩]
def pcashbookref18_Rightl7 : AC := (.keep [] [(1, false), (8, false), (9, false), (10, false)] [(.loc 1 0, false)] [.loc 4 0] [] (.seq (.ops pcashbookref18_Rightr2) (.seq (.cond (.tmp 11) .skip (.exit 0)) (.seq (.pass 1 (.seq (.ops pcashbookref18_Rightr3) (.seq (.draw [] pcashbookref18_Rightr4) (.cond (.tmp 33) (.seq (.ops pcashbookref18_Rightr5) (.keep [] [(2, false)] [] [.loc 1 0, .loc 4 0, .loc 6 0] [] .ret)) .skip)))) (.ops pcashbookref18_Rightr6)))))
def pcashbookref18_Rightr8 : List GOp := [⟨(some 35), none, .fld 1 (.tmp 1)⟩, ⟨(some 36), none, .load false 1 (.tmp 35)⟩, ⟨(some 37), none, .len false (.tmp 36)⟩, ⟨(some 38), none, .mov (.cst (.int .i64 0))⟩]
def pcashbookref18_Rightr9 : List GOp := [⟨(some 39), none, .bin false .lss (.tmp 38) (.tmp 37)⟩]
def pcashbookref18_Rightr10 : List GOp := [⟨(some 40), none, .mov (.tmp 38)⟩, ⟨(some 41), none, .idx 8 (.tmp 36) (.tmp 38)⟩, ⟨(some 42), none, .load true 8 (.tmp 41)⟩, ⟨(some 6), none, .alloc [.pv (.int .i64 0), .pv (.int .i64 0), .pv (.int .i64 0), .pv (.int .i64 0), .pv (.int .i64 0), .pv (.int .i64 0), .pv (.int .i32 0), .pv (.int .i32 0)]⟩, ⟨(some 5), none, .mov (.tmp 40)⟩, ⟨none, none, .store 8 (.tmp 6) (.tmp 42)⟩]
def pcashbookref18_Rightr11 : List GOp := [⟨(some 43), none, .load true 8 (.tmp 6)⟩, ⟨(some 44), none, .call 0 0 (.cst (.fn 87)) [(.tmp 43)] [] []⟩, ⟨(some 45), none, .un .not (.tmp 44)⟩, ⟨(some 46), none, .mov (.tmp 45)⟩, ⟨(some 47), (some (46, false)), .load true 8 (.tmp 6)⟩, ⟨(some 48), (some (46, false)), .call 0 0 (.cst (.fn 88)) [(.tmp 47)] [] []⟩, ⟨(some 49), (some (46, false)), .un .not (.tmp 48)⟩, ⟨(some 50), none, .pick (.tmp 46) (.cst (.bool true)) (.tmp 49)⟩, ⟨(some 51), none, .mov (.tmp 50)⟩, ⟨(some 52), (some (51, false)), .mov (.tmp 5)⟩, ⟨(some 53), (some (51, false)), .bin false .gtr (.tmp 52) (.cst (.int .i64 0))⟩, ⟨(some 54), (some (51, false)), .mov (.tmp 53)⟩, ⟨(some 55), (some (54, true)), .fld 1 (.tmp 1)⟩, ⟨(some 56), (some (54, true)), .load false 1 (.tmp 55)⟩, ⟨(some 57), (some (54, true)), .mov (.tmp 5)⟩, ⟨(some 58), (some (54, true)), .bin false .sub (.tmp 57) (.cst (.int .i64 1))⟩, ⟨(some 59), (some (54, true)), .idx 8 (.tmp 56) (.tmp 58)⟩, ⟨(some 60), (some (54, true)), .fld 0 (.tmp 59)⟩, ⟨(some 61), (some (54, true)), .load false 1 (.tmp 60)⟩, ⟨(some 62), (some (54, true)), .fld 0 (.tmp 6)⟩, ⟨(some 63), (some (54, true)), .load false 1 (.tmp 62)⟩, ⟨(some 64), (some (54, true)), .bin false .geq (.tmp 61) (.tmp 63)⟩, ⟨(some 65), (some (51, false)), .pick (.tmp 54) (.tmp 64) (.cst (.bool false))⟩, ⟨(some 66), none, .pick (.tmp 51) (.cst (.bool true)) (.tmp 65)⟩, ⟨(some 67), none, .mov (.tmp 66)⟩, ⟨(some 68), (some (67, false)), .fld 3 (.tmp 6)⟩, ⟨(some 69), (some (67, false)), .load false 1 (.tmp 68)⟩, ⟨(some 70), (some (67, false)), .bin false .gtr (.tmp 69) (.cst (.int .i64 0))⟩, ⟨(some 71), (some (67, false)), .mov (.tmp 70)⟩, ⟨(some 72), (some (71, true)), .fld 0 (.tmp 1)⟩, ⟨(some 73), (some (71, true)), .load false 1 (.tmp 72)⟩, ⟨(some 74), (some (71, true)), .fld 3 (.tmp 6)⟩, ⟨(some 75), (some (71, true)), .load false 1 (.tmp 74)⟩, ⟨(some 76), (some (71, true)), .call 0 0 (.cst (.fn 89)) [(.tmp 73), (.tmp 75)] [] []⟩, ⟨(some 77), (some (71, true)), .bin false .lss (.tmp 76) (.cst (.int .i64 0))⟩, ⟨(some 78), (some (67, false)), .pick (.tmp 71) (.tmp 77) (.cst (.bool false))⟩, ⟨(some 79), none, .pick (.tmp 67) (.cst (.bool true)) (.tmp 78)⟩]
def pcashbookref18_Rightr12 : List GOp := [⟨(some 2), none, .mov (.cst (.bool false))⟩]
def pcashbookref18_Rightr13 : List GOp := [⟨(some 80), none, .bin false .add (.tmp 38) (.cst (.int .i64 1))⟩, ⟨(some 38), none, .mov (.tmp 80)⟩]
def pcashbookref18_Rightl14 : AC := (.keep [] [(1, false), (36, false), (37, false), (38, false)] [(.loc 1 0, false)] [.loc 6 0] [] (.seq (.ops pcashbookref18_Rightr9) (.seq (.cond (.tmp 39) .skip (.exit 2)) (.seq (.pass 3 (.seq (.ops pcashbookref18_Rightr10) (.seq (.draw [] pcashbookref18_Rightr11) (.cond (.tmp 79) (.seq (.ops pcashbookref18_Rightr12) (.keep [] [(2, false)] [] [.loc 1 0, .loc 4 0, .loc 6 0] [] .ret)) .skip)))) (.ops pcashbookref18_Rightr13)))))
def pcashbookref18_Rightr15 : List GOp := [⟨(some 81), none, .fld 0 (.tmp 1)⟩, ⟨(some 82), none, .load false 1 (.tmp 81)⟩, ⟨(some 83), none, .len false (.tmp 82)⟩, ⟨(some 84), none, .bin false .leq (.tmp 83) (.cst (.int .i64 100))⟩, ⟨(some 85), none, .mov (.tmp 84)⟩, ⟨(some 86), (some (85, true)), .fld 1 (.tmp 1)⟩, ⟨(some 87), (some (85, true)), .load false 1 (.tmp 86)⟩, ⟨(some 88), (some (85, true)), .len false (.tmp 87)⟩, ⟨(some 89), (some (85, true)), .bin false .leq (.tmp 88) (.cst (.int .i64 200))⟩, ⟨(some 90), none, .pick (.tmp 85) (.tmp 89) (.cst (.bool false))⟩, ⟨(some 2), none, .mov (.tmp 90)⟩]
def pcashbookref18_Rightb : AC := (.seq (.ops pcashbookref18_Rightr0) (.seq (.seq (.ops pcashbookref18_Rightr1) (.block 0 (.loop [1, 8, 9, 10] [] pcashbookref18_Rightl7))) (.seq (.seq (.keep [] [(1, false)] [(.loc 1 0, false)] [] [] (.ops pcashbookref18_Rightr8)) (.block 2 (.loop [1, 36, 37, 38] [] pcashbookref18_Rightl14))) (.seq (.keep [] [(1, false)] [(.loc 1 0, false)] [] [] (.ops pcashbookref18_Rightr15)) (.keep [] [(2, false)] [] [.loc 1 0, .loc 4 0, .loc 6 0] [] .ret)))))
def pcashbookref18_Right : Fd := ⟨1, [.tmp 2], [], pcashbookref18_Rightb⟩
theorem pcashbookref18_Right_ag : agreeF Tryz.prog Tryz.f36 pcashbookref18_Right = true := by kernel_rfl
theorem cashbookref18_Right_ok {c1 : T_api_Chart} {r : Bool} (h : cashbookref18_Right c1 = some r) : Contract Tryz.prog 36 [.pv (T_api_Chart.pv c1)] [] ⟨.pv (.bool r), [], []⟩ := by
 refine contract_fin hm Tryz.func36 pcashbookref18_Right_ag (by kernel_rfl) ?_
 unfold cashbookref18_Right at h
 refine W.seqOps (RunR.all (by kernel_rfl)) ?_
 refine W.assoc ?_
 refine W.seqOps (RunR.stat 2 (by kernel_rfl) (RunR.dyn (Step.lenT (f := T_api_Customer.pv) (l := c1.f_Customers) (by kernel_rfl)) (RunR.all (by kernel_rfl)))) ?_
 replace h := bindS h
 obtain ⟨j2, hj2, h⟩ := h
 refine W.joinOut (j := j2) (o := r) (fun p σ => σ.tidy [] [(1, false)] [(.loc 1 0, false)] [] [] = ⟨[(1, .ptr (.loc 1 0) 0)], [(.loc 1 0, .box [.pv (.slice (List.map T_api_Customer.pv c1.f_Customers)), .pv (.slice (List.map T_api_Record.pv c1.f_Records))])]⟩) ?_ (fun p σj2 hp hsj2 => ?_) (fun p hp => ?_)
 ·refine W.blockLoopO (fun q σ => ((σ.forget [1, 8, 9, 10]).killAll []).tidy [] [(1, false), (8, false), (9, false), (10, false)] [(.loc 1 0, false)] [.loc 4 0] [] = ⟨[(1, .ptr (.loc 1 0) 0), (8, .pv (.slice (List.map T_api_Customer.pv c1.f_Customers))), (9, .pv (.int .i64 (c1.f_Customers.length : Int))), (10, .pv (.int .i64 q))], [(.loc 1 0, .box [.pv (.slice (List.map T_api_Customer.pv c1.f_Customers)), .pv (.slice (List.map T_api_Record.pv c1.f_Records))])]⟩) hj2 ?_ ?_
  ·show _ = _
   kernel_rfl
  ·intro x3 σj2 oj2 hJj2 h
   refine W.keep hJj2 ?_
   refine W.seqOps (RunR.all (by kernel_rfl)) ?_
   refine W.seqCond (t := decide (x3 < (c1.f_Customers.length : Int))) (by kernel_rfl) h (fun hc h' => ?_) (fun hc h' => ?_)
   ·replace h := h'
    refine W.seqSkip ?_
    refine W.seqPass ?_
    refine W.assoc ?_
    replace h := bindS h
    obtain ⟨x4, hx4, h⟩ := h
    refine W.seqOps (RunR.stat 1 (by kernel_rfl) (RunR.dyn (Step.idxT (f := T_api_Customer.pv) (l := c1.f_Customers) (n := x3) (e := x4) (k := .i64) (by kernel_rfl) (by kernel_rfl) hx4 (by kernel_rfl)) (RunR.all (by kernel_rfl)))) ?_
    refine W.assoc ?_
    replace h := bindS h
    obtain ⟨x5, hx5, h⟩ := h
    replace h := bindS h
    obtain ⟨c6, hc6, h⟩ := h
    replace h := bindS h
    obtain ⟨c7, hc7, h⟩ := h
    replace h := bindS h
    obtain ⟨x8, hx8, h⟩ := h
    refine W.seqDraw (tab_cons (on := true) (fun _ => cashbookref18_Customer_ok hx5) tab_nil) (Run.stat 1 (by kernel_rfl) (Run.dyn (Step.call0 (g := 86) (caps := []) (v := .pv (.bool x5)) (by kernel_rfl) (by kernel_rfl) (by kernel_rfl) (tab_hit (by kernel_rfl)) (by kernel_rfl)) (Run.stat 1 (by kernel_rfl) (Run.dyn (Step.name (f := eBool) (e := !x5) (c := c6) (by kernel_rfl) hc6) (Run.puts 2 [(20, (bif !c6 then (.pv (.bool (decide (x3 > 0)))) else (.tup []))), (19, (bif !c6 then (.pv (.int .i64 x3)) else (.tup [])))] (by cases c6 <;> kernel_rfl) (Run.dyn (Step.gdG (!c6) (by kernel_rfl) (by
       cases c6
       ·exact .inr ⟨by kernel_rfl, by kernel_rfl, Step.name (f := eBool) (e := decide (x3 > 0)) (c := c7) (by kernel_rfl) hc7⟩
       ·exact .inl ⟨by kernel_rfl, by kernel_rfl⟩)) (Run.puts 4 [(25, (bif ((!c6) && c7) then (.pv (.int .i64 (IntKind.wrap .i64 (x3 - 1)))) else (.tup []))), (24, (bif ((!c6) && c7) then (.pv (.int .i64 x3)) else (.tup []))), (23, (bif ((!c6) && c7) then (.pv (.slice (List.map T_api_Customer.pv c1.f_Customers))) else (.tup []))), (22, (bif ((!c6) && c7) then (.ptr (.loc 1 0) 0) else (.tup [])))] (by cases c6 <;> cases c7 <;> kernel_rfl) (Run.dyn (Step.gdG ((!c6) && c7) (by kernel_rfl) (by
       cases c6
       ·cases c7
        ·exact .inl ⟨by kernel_rfl, by kernel_rfl⟩
        ·exact .inr ⟨by kernel_rfl, by kernel_rfl, Step.idxT (f := T_api_Customer.pv) (l := c1.f_Customers) (n := IntKind.wrap .i64 (x3 - 1)) (e := x8) (k := .i64) (by kernel_rfl) (by kernel_rfl) hx8 (by kernel_rfl)⟩
       ·cases c7
        ·exact .inl ⟨by kernel_rfl, by kernel_rfl⟩
        ·exact .inl ⟨by kernel_rfl, by kernel_rfl⟩)) (Run.puts 7 [(33, .pv (.bool (c6 || (c7 && (decide (x8.f_ID ≥ x4.f_ID)))))), (32, (bif !c6 then (.pv (.bool (c7 && (decide (x8.f_ID ≥ x4.f_ID))))) else (.tup []))), (31, (bif ((!c6) && c7) then (.pv (.bool (decide (x8.f_ID ≥ x4.f_ID)))) else (.tup []))), (30, (bif ((!c6) && c7) then (.pv (.int .i64 x4.f_ID)) else (.tup []))), (29, (bif ((!c6) && c7) then (.ptr (.loc 4 0) 0) else (.tup []))), (28, (bif ((!c6) && c7) then (.pv (.int .i64 x8.f_ID)) else (.tup []))), (27, (bif ((!c6) && c7) then (.ipv (T_api_Customer.pv x8) 0) else (.tup [])))] (by cases c6 <;> cases c7 <;> kernel_rfl) ((Run.nil))))))))))) ?_
    refine W.seqCond (t := (c6 || (c7 && (decide (x8.f_ID ≥ x4.f_ID))))) (by kernel_rfl) h (fun hc h' => ?_) (fun hc h' => ?_)
    ·replace h := h'
     refine W.assoc ?_
     refine W.seqOps (RunR.all (by kernel_rfl)) ?_
     refine W.seqKeep rfl ?_
     cases h
     exact W.seqRet ((outw_out ret_ne (bout_o ret_ne ret_ne' (fun e => by subst e; exact (fin_ret (by kernel_rfl))))))
    ·replace h := h'
     refine W.seqSkip ?_
     refine W.ops (RunR.all (by kernel_rfl)) ?_
     cases h
     exact (outw_in (by (show _ = _); kernel_rfl))
   ·replace h := h'
    cases h
    exact W.seqExit ((outw_out exit_ne (bout_x (by (show _ = _); kernel_rfl))))
 ·subst hp
  obtain ⟨⟩ := p
  refine W.assoc ?_
  refine W.seqKeep hsj2 ?_
  refine W.seqOps (RunR.stat 2 (by kernel_rfl) (RunR.dyn (Step.lenT (f := T_api_Record.pv) (l := c1.f_Records) (by kernel_rfl)) (RunR.all (by kernel_rfl)))) ?_
  replace h := bindS h
  obtain ⟨j9, hj9, h⟩ := h
  refine W.joinOut (j := j9) (o := r) (fun p σ => σ.tidy [] [(1, false)] [(.loc 1 0, false)] [] [] = ⟨[(1, .ptr (.loc 1 0) 0)], [(.loc 1 0, .box [.pv (.slice (List.map T_api_Customer.pv c1.f_Customers)), .pv (.slice (List.map T_api_Record.pv c1.f_Records))])]⟩) ?_ (fun p σj9 hp hsj9 => ?_) (fun p hp => ?_)
  ·refine W.blockLoopO (fun q σ => ((σ.forget [1, 36, 37, 38]).killAll []).tidy [] [(1, false), (36, false), (37, false), (38, false)] [(.loc 1 0, false)] [.loc 6 0] [] = ⟨[(1, .ptr (.loc 1 0) 0), (36, .pv (.slice (List.map T_api_Record.pv c1.f_Records))), (37, .pv (.int .i64 (c1.f_Records.length : Int))), (38, .pv (.int .i64 q))], [(.loc 1 0, .box [.pv (.slice (List.map T_api_Customer.pv c1.f_Customers)), .pv (.slice (List.map T_api_Record.pv c1.f_Records))])]⟩) hj9 ?_ ?_
   ·show _ = _
    kernel_rfl
   ·intro x10 σj9 oj9 hJj9 h
    refine W.keep hJj9 ?_
    refine W.seqOps (RunR.all (by kernel_rfl)) ?_
    refine W.seqCond (t := decide (x10 < (c1.f_Records.length : Int))) (by kernel_rfl) h (fun hc h' => ?_) (fun hc h' => ?_)
    ·replace h := h'
     refine W.seqSkip ?_
     refine W.seqPass ?_
     refine W.assoc ?_
     replace h := bindS h
     obtain ⟨x11, hx11, h⟩ := h
     refine W.seqOps (RunR.stat 1 (by kernel_rfl) (RunR.dyn (Step.idxT (f := T_api_Record.pv) (l := c1.f_Records) (n := x10) (e := x11) (k := .i64) (by kernel_rfl) (by kernel_rfl) hx11 (by kernel_rfl)) (RunR.all (by kernel_rfl)))) ?_
     refine W.assoc ?_
     replace h := bindS h
     obtain ⟨x12, hx12, h⟩ := h
     replace h := bindS h
     obtain ⟨c13, hc13, h⟩ := h
     replace h := bindS h
     obtain ⟨x14, hx14, h⟩ := h
     replace h := bindS h
     obtain ⟨c15, hc15, h⟩ := h
     replace h := bindS h
     obtain ⟨c16, hc16, h⟩ := h
     replace h := bindS h
     obtain ⟨x17, hx17, h⟩ := h
     replace h := bindS h
     obtain ⟨c18, hc18, h⟩ := h
     replace h := bindS h
     obtain ⟨c19, hc19, h⟩ := h
     replace h := bindS h
     obtain ⟨x20, hx20, h⟩ := h
     refine W.seqDraw (tab_cons (on := true) (fun _ => cashbookref18_Record_ok hx12) (tab_cons (on := (!c13)) (fun hg => cashbookref18_Own_ok (gdO_at hg hx14)) (tab_cons (on := ((!c18) && c19)) (fun hg => cashbookref18_PlaceOf_ok (gdO_at hg hx20)) tab_nil))) (Run.stat 1 (by kernel_rfl) (Run.dyn (Step.call0 (g := 87) (caps := []) (v := .pv (.bool x12)) (by kernel_rfl) (by kernel_rfl) (by kernel_rfl) (tab_hit (by kernel_rfl)) (by kernel_rfl)) (Run.stat 1 (by kernel_rfl) (Run.dyn (Step.name (f := eBool) (e := !x12) (c := c13) (by kernel_rfl) hc13) (Run.puts 1 [(47, (bif !c13 then (.pv (T_api_Record.pv x11)) else (.tup [])))] (by cases c13 <;> kernel_rfl) (Run.dyn (Step.gdG (!c13) (by kernel_rfl) (by
        cases c13
        ·exact .inr ⟨by kernel_rfl, by kernel_rfl, Step.call0 (g := 88) (caps := []) (v := .pv (.bool x14)) (by kernel_rfl) (by kernel_rfl) (by kernel_rfl) (tab_next rfl (tab_hit (by kernel_rfl))) (by kernel_rfl)⟩
        ·exact .inl ⟨by kernel_rfl, by kernel_rfl⟩)) (Run.puts 2 [(50, .pv (.bool (c13 || (!x14)))), (49, (bif !c13 then (.pv (.bool (!x14))) else (.tup [])))] (by cases c13 <;> kernel_rfl) (Run.dyn (Step.name (f := eBool) (e := (c13 || (!x14))) (c := c15) (by kernel_rfl) hc15) (Run.puts 2 [(53, (bif !c15 then (.pv (.bool (decide (x10 > 0)))) else (.tup []))), (52, (bif !c15 then (.pv (.int .i64 x10)) else (.tup [])))] (by cases c15 <;> kernel_rfl) (Run.dyn (Step.gdG (!c15) (by kernel_rfl) (by
        cases c15
        ·exact .inr ⟨by kernel_rfl, by kernel_rfl, Step.name (f := eBool) (e := decide (x10 > 0)) (c := c16) (by kernel_rfl) hc16⟩
        ·exact .inl ⟨by kernel_rfl, by kernel_rfl⟩)) (Run.puts 4 [(58, (bif ((!c15) && c16) then (.pv (.int .i64 (IntKind.wrap .i64 (x10 - 1)))) else (.tup []))), (57, (bif ((!c15) && c16) then (.pv (.int .i64 x10)) else (.tup []))), (56, (bif ((!c15) && c16) then (.pv (.slice (List.map T_api_Record.pv c1.f_Records))) else (.tup []))), (55, (bif ((!c15) && c16) then (.ptr (.loc 1 0) 1) else (.tup [])))] (by cases c15 <;> cases c16 <;> kernel_rfl) (Run.dyn (Step.gdG ((!c15) && c16) (by kernel_rfl) (by
        cases c15
        ·cases c16
         ·exact .inl ⟨by kernel_rfl, by kernel_rfl⟩
         ·exact .inr ⟨by kernel_rfl, by kernel_rfl, Step.idxT (f := T_api_Record.pv) (l := c1.f_Records) (n := IntKind.wrap .i64 (x10 - 1)) (e := x17) (k := .i64) (by kernel_rfl) (by kernel_rfl) hx17 (by kernel_rfl)⟩
        ·cases c16
         ·exact .inl ⟨by kernel_rfl, by kernel_rfl⟩
         ·exact .inl ⟨by kernel_rfl, by kernel_rfl⟩)) (Run.puts 7 [(66, .pv (.bool (c15 || (c16 && (decide (x17.f_Acc ≥ x11.f_Acc)))))), (65, (bif !c15 then (.pv (.bool (c16 && (decide (x17.f_Acc ≥ x11.f_Acc))))) else (.tup []))), (64, (bif ((!c15) && c16) then (.pv (.bool (decide (x17.f_Acc ≥ x11.f_Acc)))) else (.tup []))), (63, (bif ((!c15) && c16) then (.pv (.int .i64 x11.f_Acc)) else (.tup []))), (62, (bif ((!c15) && c16) then (.ptr (.loc 6 0) 0) else (.tup []))), (61, (bif ((!c15) && c16) then (.pv (.int .i64 x17.f_Acc)) else (.tup []))), (60, (bif ((!c15) && c16) then (.ipv (T_api_Record.pv x17) 0) else (.tup [])))] (by cases c15 <;> cases c16 <;> kernel_rfl) (Run.dyn (Step.name (f := eBool) (e := (c15 || (c16 && (decide (x17.f_Acc ≥ x11.f_Acc))))) (c := c18) (by kernel_rfl) hc18) (Run.puts 3 [(70, (bif !c18 then (.pv (.bool (decide (x11.f_Customer > 0)))) else (.tup []))), (69, (bif !c18 then (.pv (.int .i64 x11.f_Customer)) else (.tup []))), (68, (bif !c18 then (.ptr (.loc 6 0) 3) else (.tup [])))] (by cases c18 <;> kernel_rfl) (Run.dyn (Step.gdG (!c18) (by kernel_rfl) (by
        cases c18
        ·exact .inr ⟨by kernel_rfl, by kernel_rfl, Step.name (f := eBool) (e := decide (x11.f_Customer > 0)) (c := c19) (by kernel_rfl) hc19⟩
        ·exact .inl ⟨by kernel_rfl, by kernel_rfl⟩)) (Run.puts 4 [(75, (bif ((!c18) && c19) then (.pv (.int .i64 x11.f_Customer)) else (.tup []))), (74, (bif ((!c18) && c19) then (.ptr (.loc 6 0) 3) else (.tup []))), (73, (bif ((!c18) && c19) then (.pv (.slice (List.map T_api_Customer.pv c1.f_Customers))) else (.tup []))), (72, (bif ((!c18) && c19) then (.ptr (.loc 1 0) 0) else (.tup [])))] (by cases c18 <;> cases c19 <;> kernel_rfl) (Run.dyn (Step.gdG ((!c18) && c19) (by kernel_rfl) (by
        cases c18
        ·cases c19
         ·exact .inl ⟨by kernel_rfl, by kernel_rfl⟩
         ·exact .inr ⟨by kernel_rfl, by kernel_rfl, Step.call0 (g := 89) (caps := []) (v := .pv (.int .i64 x20)) (by kernel_rfl) (by kernel_rfl) (by kernel_rfl) (tab_next rfl (tab_next rfl (tab_hit (by kernel_rfl)))) (by kernel_rfl)⟩
        ·cases c19
         ·exact .inl ⟨by kernel_rfl, by kernel_rfl⟩
         ·exact .inl ⟨by kernel_rfl, by kernel_rfl⟩)) (Run.puts 3 [(79, .pv (.bool (c18 || (c19 && (decide (x20 < 0)))))), (78, (bif !c18 then (.pv (.bool (c19 && (decide (x20 < 0))))) else (.tup []))), (77, (bif ((!c18) && c19) then (.pv (.bool (decide (x20 < 0)))) else (.tup [])))] (by cases c18 <;> cases c19 <;> kernel_rfl) ((Run.nil))))))))))))))))))))) ?_
     refine W.seqCond (t := (c18 || (c19 && (decide (x20 < 0))))) (by kernel_rfl) h (fun hc h' => ?_) (fun hc h' => ?_)
     ·replace h := h'
      refine W.assoc ?_
      refine W.seqOps (RunR.all (by kernel_rfl)) ?_
      refine W.seqKeep rfl ?_
      cases h
      exact W.seqRet ((outw_out ret_ne (bout_o ret_ne ret_ne' (fun e => by subst e; exact (fin_ret (by kernel_rfl))))))
     ·replace h := h'
      refine W.seqSkip ?_
      refine W.ops (RunR.all (by kernel_rfl)) ?_
      cases h
      exact (outw_in (by (show _ = _); kernel_rfl))
    ·replace h := h'
     cases h
     exact W.seqExit ((outw_out exit_ne (bout_x (by (show _ = _); kernel_rfl))))
  ·subst hp
   obtain ⟨⟩ := p
   refine W.seqKeep hsj9 ?_
   replace h := bindS h
   obtain ⟨c21, hc21, h⟩ := h
   refine W.seqOps (RunR.stat 2 (by kernel_rfl) (RunR.dyn (Step.lenT (f := T_api_Customer.pv) (l := c1.f_Customers) (by kernel_rfl)) (RunR.stat 1 (by kernel_rfl) (RunR.dyn (Step.name (f := eBool) (e := decide ((c1.f_Customers.length : Int) ≤ 100)) (c := c21) (by kernel_rfl) hc21) (RunR.puts 2 [(87, (bif c21 then (.pv (.slice (List.map T_api_Record.pv c1.f_Records))) else (.tup []))), (86, (bif c21 then (.ptr (.loc 1 0) 1) else (.tup [])))] (by cases c21 <;> kernel_rfl) (RunR.dyn (Step.gdG c21 (by kernel_rfl) (by
      cases c21
      ·exact .inl ⟨by kernel_rfl, by kernel_rfl⟩
      ·exact .inr ⟨by kernel_rfl, by kernel_rfl, Step.lenT (f := T_api_Record.pv) (l := c1.f_Records) (by kernel_rfl)⟩)) (RunR.puts 2 [(90, .pv (.bool (c21 && (decide ((c1.f_Records.length : Int) ≤ 200))))), (89, (bif c21 then (.pv (.bool (decide ((c1.f_Records.length : Int) ≤ 200)))) else (.tup [])))] (by cases c21 <;> kernel_rfl) (RunR.all (by kernel_rfl))))))))) ?_
   refine W.keep rfl ?_
   cases h
   exact W.ret ((fin_ret (by kernel_rfl)))
  ·subst hp
   exact Option.some.inj h
 ·subst hp
  exact Option.some.inj h
def pcashbookref03_Namer0 : List GOp := [⟨(some 2), none, .mov (.cst (.str []))⟩]
def pcashbookref03_Namer1 : List GOp := [⟨(some 3), none, .mov (.tmp 0)⟩]
def pcashbookref03_Namer2 : List GOp := [⟨(some 5), none, .bin false .eql (.tmp 3) (.cst (.int .i64 0))⟩, ⟨(some 4), none, .mov (.tmp 5)⟩]
def pcashbookref03_Namer3 : List GOp := [⟨(some 2), none, .mov (.cst (.str [69, 85, 82]))⟩]
def pcashbookref03_Namer4 : List GOp := [⟨(some 7), none, .bin false .eql (.tmp 3) (.cst (.int .i64 1))⟩, ⟨(some 6), none, .mov (.tmp 7)⟩]
def pcashbookref03_Namer5 : List GOp := [⟨(some 2), none, .mov (.cst (.str [74, 80, 89]))⟩]
def pcashbookref03_Namer6 : List GOp := [⟨(some 9), none, .bin false .eql (.tmp 3) (.cst (.int .i64 2))⟩, ⟨(some 8), none, .mov (.tmp 9)⟩]
def pcashbookref03_Namer7 : List GOp := [⟨(some 2), none, .mov (.cst (.str [66, 72, 68]))⟩]
def pcashbookref03_Namer8 : List GOp := [⟨(some 11), none, .bin false .eql (.tmp 3) (.cst (.int .i64 3))⟩, ⟨(some 10), none, .mov (.tmp 11)⟩]
def pcashbookref03_Namer9 : List GOp := [⟨(some 2), none, .mov (.cst (.str [85, 83, 68]))⟩]
def pcashbookref03_Namer10 : List GOp := [⟨(some 2), none, .mov (.cst (.str []))⟩]
def pcashbookref03_Nameb : AC := (.seq (.ops pcashbookref03_Namer0) (.seq (.seq (.ops pcashbookref03_Namer1) (.pass 0 (.seq (.ops pcashbookref03_Namer2) (.cond (.tmp 4) (.seq (.ops pcashbookref03_Namer3) (.keep [] [(2, false)] [] [] [] .ret)) (.seq (.ops pcashbookref03_Namer4) (.cond (.tmp 6) (.seq (.ops pcashbookref03_Namer5) (.keep [] [(2, false)] [] [] [] .ret)) (.seq (.ops pcashbookref03_Namer6) (.cond (.tmp 8) (.seq (.ops pcashbookref03_Namer7) (.keep [] [(2, false)] [] [] [] .ret)) (.seq (.ops pcashbookref03_Namer8) (.cond (.tmp 10) (.seq (.ops pcashbookref03_Namer9) (.keep [] [(2, false)] [] [] [] .ret)) .skip)))))))))) (.seq (.ops pcashbookref03_Namer10) (.keep [] [(2, false)] [] [] [] .ret))))
def pcashbookref03_Name : Fd := ⟨1, [.tmp 2], [], pcashbookref03_Nameb⟩
theorem pcashbookref03_Name_ag : agreeF Tryz.prog Tryz.f105 pcashbookref03_Name = true := by kernel_rfl
theorem cashbookref03_Name_ok {cur1 : Int} {r : List UInt8} (h : cashbookref03_Name cur1 = some r) : Contract Tryz.prog 105 [.pv (.int .i64 cur1)] [] ⟨.pv (.str r), [], []⟩ := by
 refine contract_fin hm Tryz.func105 pcashbookref03_Name_ag (by kernel_rfl) ?_
 unfold cashbookref03_Name at h
 refine W.seqOps (RunR.all (by kernel_rfl)) ?_
 refine W.assoc ?_
 refine W.seqOps (RunR.all (by kernel_rfl)) ?_
 refine W.seqPass ?_
 refine W.assoc ?_
 refine W.seqOps (RunR.all (by kernel_rfl)) ?_
 refine W.seqCond (t := (cur1 == 0)) (by kernel_rfl) h (fun hc h' => ?_) (fun hc h' => ?_)
 ·replace h := h'
  refine W.assoc ?_
  refine W.seqOps (RunR.all (by kernel_rfl)) ?_
  refine W.seqKeep rfl ?_
  cases h
  exact W.seqRet ((fin_ret (by kernel_rfl)))
 ·replace h := h'
  refine W.assoc ?_
  refine W.seqOps (RunR.all (by kernel_rfl)) ?_
  refine W.seqCond (t := (cur1 == 1)) (by kernel_rfl) h (fun hc h' => ?_) (fun hc h' => ?_)
  ·replace h := h'
   refine W.assoc ?_
   refine W.seqOps (RunR.all (by kernel_rfl)) ?_
   refine W.seqKeep rfl ?_
   cases h
   exact W.seqRet ((fin_ret (by kernel_rfl)))
  ·replace h := h'
   refine W.assoc ?_
   refine W.seqOps (RunR.all (by kernel_rfl)) ?_
   refine W.seqCond (t := (cur1 == 2)) (by kernel_rfl) h (fun hc h' => ?_) (fun hc h' => ?_)
   ·replace h := h'
    refine W.assoc ?_
    refine W.seqOps (RunR.all (by kernel_rfl)) ?_
    refine W.seqKeep rfl ?_
    cases h
    exact W.seqRet ((fin_ret (by kernel_rfl)))
   ·replace h := h'
    refine W.assoc ?_
    refine W.seqOps (RunR.all (by kernel_rfl)) ?_
    refine W.seqCond (t := (cur1 == 3)) (by kernel_rfl) h (fun hc h' => ?_) (fun hc h' => ?_)
    ·replace h := h'
     refine W.assoc ?_
     refine W.seqOps (RunR.all (by kernel_rfl)) ?_
     refine W.seqKeep rfl ?_
     cases h
     exact W.seqRet ((fin_ret (by kernel_rfl)))
    ·replace h := h'
     refine W.seqSkip ?_
     refine W.seqOps (RunR.all (by kernel_rfl)) ?_
     refine W.keep rfl ?_
     cases h
     exact W.ret ((fin_ret (by kernel_rfl)))
def pcashbookref03_Rightr0 : List GOp := [⟨(some 1), none, .box (.tmp 0)⟩, ⟨(some 2), none, .mov (.cst (.bool false))⟩]
def pcashbookref03_Rightr1 : List GOp := [⟨(some 3), none, .fld 0 (.tmp 1)⟩, ⟨(some 4), none, .load false 1 (.tmp 3)⟩, ⟨(some 5), none, .call 0 0 (.cst (.fn 105)) [(.tmp 4)] [] []⟩, ⟨(some 6), none, .bin false .neq (.tmp 5) (.cst (.str []))⟩, ⟨(some 7), none, .mov (.tmp 6)⟩, ⟨(some 8), (some (7, true)), .fld 1 (.tmp 1)⟩, ⟨(some 9), (some (7, true)), .load false 1 (.tmp 8)⟩, ⟨(some 10), (some (7, true)), .bin false .geq (.tmp 9) (.cst (.int .i64 (-1000000000000000)))⟩, ⟨(some 11), none, .pick (.tmp 7) (.tmp 10) (.cst (.bool false))⟩, ⟨(some 12), none, .mov (.tmp 11)⟩, ⟨(some 13), (some (12, true)), .fld 1 (.tmp 1)⟩, ⟨(some 14), (some (12, true)), .load false 1 (.tmp 13)⟩, ⟨(some 15), (some (12, true)), .bin false .leq (.tmp 14) (.cst (.int .i64 1000000000000000))⟩, ⟨(some 16), none, .pick (.tmp 12) (.tmp 15) (.cst (.bool false))⟩, ⟨(some 2), none, .mov (.tmp 16)⟩]
def pcashbookref03_Rightb : AC := (.seq (.ops pcashbookref03_Rightr0) (.seq (.ops pcashbookref03_Rightr1) (.keep [] [(2, false)] [] [.loc 1 0] [] .ret)))
def pcashbookref03_Right : Fd := ⟨1, [.tmp 2], [], pcashbookref03_Rightb⟩
theorem pcashbookref03_Right_ag : agreeF Tryz.prog Tryz.f60 pcashbookref03_Right = true := by kernel_rfl
theorem cashbookref03_Right_ok {m1 : T_api_Money} {r : Bool} (h : cashbookref03_Right m1 = some r) : Contract Tryz.prog 60 [.pv (T_api_Money.pv m1)] [] ⟨.pv (.bool r), [], []⟩ := by
 refine contract_fin hm Tryz.func60 pcashbookref03_Right_ag (by kernel_rfl) ?_
 unfold cashbookref03_Right at h
 refine W.seqOps (RunR.all (by kernel_rfl)) ?_
 replace h := bindS h
 obtain ⟨x2, hx2, h⟩ := h
 replace h := bindS h
 obtain ⟨c3, hc3, h⟩ := h
 replace h := bindS h
 obtain ⟨c4, hc4, h⟩ := h
 refine W.seqOps (RunR.stat 2 (by kernel_rfl) (RunR.cons (tab_cons (on := true) (fun _ => cashbookref03_Name_ok hx2) tab_nil) (Step.call0 (g := 105) (caps := []) (v := .pv (.str x2)) (by kernel_rfl) (by kernel_rfl) (by kernel_rfl) (tab_hit (by kernel_rfl)) (by kernel_rfl)) (RunR.stat 1 (by kernel_rfl) (RunR.dyn (Step.name (f := eBool) (e := !(x2 == [])) (c := c3) (by kernel_rfl) hc3) (RunR.puts 4 [(11, .pv (.bool (c3 && (decide (m1.f_Minor ≥ (-1000000000000000)))))), (10, (bif c3 then (.pv (.bool (decide (m1.f_Minor ≥ (-1000000000000000))))) else (.tup []))), (9, (bif c3 then (.pv (.int .i64 m1.f_Minor)) else (.tup []))), (8, (bif c3 then (.ptr (.loc 1 0) 1) else (.tup [])))] (by cases c3 <;> kernel_rfl) (RunR.dyn (Step.name (f := eBool) (e := (c3 && (decide (m1.f_Minor ≥ (-1000000000000000))))) (c := c4) (by kernel_rfl) hc4) (RunR.puts 4 [(16, .pv (.bool (c4 && (decide (m1.f_Minor ≤ 1000000000000000))))), (15, (bif c4 then (.pv (.bool (decide (m1.f_Minor ≤ 1000000000000000)))) else (.tup []))), (14, (bif c4 then (.pv (.int .i64 m1.f_Minor)) else (.tup []))), (13, (bif c4 then (.ptr (.loc 1 0) 1) else (.tup [])))] (by cases c4 <;> kernel_rfl) (RunR.all (by kernel_rfl))))))))) ?_
 refine W.keep rfl ?_
 cases h
 exact W.ret ((fin_ret (by kernel_rfl)))
end Go.Av.G
end
