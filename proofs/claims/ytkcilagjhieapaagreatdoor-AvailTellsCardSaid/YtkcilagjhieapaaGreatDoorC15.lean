import Derived.Test.YtkcilagjhieapaaGreatDoorC14
section
set_option linter.unusedVariables false
set_option linter.unusedSimpArgs false
set_option maxRecDepth 100000
set_option maxHeartbeats 8000000
namespace Go.Av.G
open Go Go.Av Go.Proofs
def pcashbooklaw26_fewr0 : List GOp := [⟨(some 1), none, .box (.tmp 0)⟩, ⟨(some 2), none, .alloc [.nils, .nils, .nils, .nils, .nils]⟩]
def pcashbooklaw26_fewr1 : List GOp := [⟨(some 7), none, .fld 0 (.tmp 1)⟩, ⟨(some 8), none, .load true 2 (.tmp 7)⟩, ⟨(some 3), none, .alloc [.nils, .nils]⟩, ⟨none, none, .store 2 (.tmp 3) (.tmp 8)⟩]
def pcashbooklaw26_fewr2 : List GOp := [⟨(some 9), none, .fld 0 (.tmp 3)⟩, ⟨(some 10), none, .load false 1 (.tmp 9)⟩, ⟨(some 11), none, .fld 0 (.tmp 3)⟩, ⟨(some 12), none, .load false 1 (.tmp 11)⟩, ⟨(some 13), none, .len false (.tmp 12)⟩, ⟨(some 14), none, .mm false (.tmp 13) [(.cst (.int .i64 20))]⟩, ⟨(some 15), none, .slc false 3 (.tmp 10) none (some (.tmp 14))⟩, ⟨(some 16), none, .fld 1 (.tmp 3)⟩, ⟨(some 17), none, .load false 1 (.tmp 16)⟩, ⟨(some 18), none, .fld 1 (.tmp 3)⟩, ⟨(some 19), none, .load false 1 (.tmp 18)⟩, ⟨(some 20), none, .len false (.tmp 19)⟩, ⟨(some 21), none, .mm false (.tmp 20) [(.cst (.int .i64 30))]⟩, ⟨(some 22), none, .slc false 8 (.tmp 17) none (some (.tmp 21))⟩, ⟨(some 23), none, .fld 0 (.tmp 3)⟩, ⟨none, none, .store 1 (.tmp 23) (.tmp 15)⟩, ⟨(some 24), none, .fld 1 (.tmp 3)⟩, ⟨none, none, .store 1 (.tmp 24) (.tmp 22)⟩]
def pcashbooklaw26_fewr3 : List GOp := [⟨(some 25), none, .load true 2 (.tmp 3)⟩, ⟨(some 26), none, .fld 0 (.tmp 1)⟩, ⟨none, none, .store 2 (.tmp 26) (.tmp 25)⟩]
def pcashbooklaw26_fewr4 : List GOp := [⟨(some 27), none, .fld 2 (.tmp 1)⟩, ⟨(some 28), none, .load false 1 (.tmp 27)⟩, ⟨(some 29), none, .len false (.tmp 28)⟩, ⟨(some 30), none, .bin false .leq (.tmp 29) (.cst (.int .i64 2000))⟩]
def pcashbooklaw26_fewr5 : List GOp := [⟨(some 4), none, .mov .nils⟩]
def pcashbooklaw26_fewr6 : List GOp := [⟨(some 31), none, .fld 2 (.tmp 1)⟩, ⟨(some 32), none, .load false 1 (.tmp 31)⟩, ⟨(some 33), none, .fld 2 (.tmp 1)⟩, ⟨(some 34), none, .load false 1 (.tmp 33)⟩, ⟨(some 35), none, .len false (.tmp 34)⟩, ⟨(some 36), none, .mm false (.tmp 35) [(.cst (.int .i64 40))]⟩, ⟨(some 37), none, .slc false 7 (.tmp 32) none (some (.tmp 36))⟩, ⟨(some 38), none, .len false (.tmp 37)⟩, ⟨(some 39), none, .mov (.cst (.int .i64 0))⟩]
def pcashbooklaw26_fewr7 : List GOp := [⟨(some 40), none, .bin false .lss (.tmp 39) (.tmp 38)⟩]
def pcashbooklaw26_fewr8 : List GOp := [⟨(some 41), none, .idx 7 (.tmp 37) (.tmp 39)⟩, ⟨(some 42), none, .load true 7 (.tmp 41)⟩, ⟨(some 6), none, .alloc [.pv (.int .i64 0), .pv (.int .i32 0), .pv (.int .i32 0), .nils, .pv (.int .i64 0), .pv (.int .i64 0), .pv (.str [])]⟩, ⟨none, none, .store 7 (.tmp 6) (.tmp 42)⟩]
def pcashbooklaw26_fewr9 : List GOp := [⟨(some 43), none, .fld 3 (.tmp 6)⟩, ⟨(some 44), none, .load false 1 (.tmp 43)⟩, ⟨(some 45), none, .fld 3 (.tmp 6)⟩, ⟨(some 46), none, .load false 1 (.tmp 45)⟩, ⟨(some 47), none, .len false (.tmp 46)⟩, ⟨(some 48), none, .mm false (.tmp 47) [(.cst (.int .i64 6))]⟩, ⟨(some 49), none, .slc false 3 (.tmp 44) none (some (.tmp 48))⟩, ⟨(some 50), none, .fld 3 (.tmp 6)⟩, ⟨none, none, .store 1 (.tmp 50) (.tmp 49)⟩]
def pcashbooklaw26_fewr10 : List GOp := [⟨(some 51), none, .mov (.tmp 4)⟩, ⟨(some 52), none, .load true 7 (.tmp 6)⟩, ⟨(some 53), none, .lit false 7 [(.tmp 52)]⟩, ⟨(some 54), none, .append 4 7 72 (.tmp 51) (.tmp 53)⟩, ⟨(some 4), none, .mov (.tmp 54)⟩]
def pcashbooklaw26_fewr11 : List GOp := [⟨(some 55), none, .bin false .add (.tmp 39) (.cst (.int .i64 1))⟩, ⟨(some 39), none, .mov (.tmp 55)⟩]
def pcashbooklaw26_fewl12 : AC := (.keep [] [(1, false), (2, false), (4, false), (37, false), (38, false), (39, false)] [(.loc 4 0, false), (.loc 1 0, false), (.loc 2 0, false)] [.loc 3 0, .loc 6 0] [.slot 4 (.loc 4 0) 7] (.seq (.ops pcashbooklaw26_fewr7) (.seq (.cond (.tmp 40) .skip (.exit 0)) (.seq (.pass 1 (.seq (.ops pcashbooklaw26_fewr8) (.seq (.ops pcashbooklaw26_fewr9) (.ops pcashbooklaw26_fewr10)))) (.ops pcashbooklaw26_fewr11)))))
def pcashbooklaw26_fewr13 : List GOp := [⟨(some 56), none, .mov (.tmp 4)⟩, ⟨(some 57), none, .fld 2 (.tmp 1)⟩, ⟨none, none, .store 1 (.tmp 57) (.tmp 56)⟩]
def pcashbooklaw26_fewr14 : List GOp := [⟨(some 58), none, .fld 3 (.tmp 1)⟩, ⟨(some 59), none, .load false 1 (.tmp 58)⟩, ⟨(some 60), none, .fld 3 (.tmp 1)⟩, ⟨(some 61), none, .load false 1 (.tmp 60)⟩, ⟨(some 62), none, .len false (.tmp 61)⟩, ⟨(some 63), none, .mm false (.tmp 62) [(.cst (.int .i64 40))]⟩, ⟨(some 64), none, .slc false 9 (.tmp 59) none (some (.tmp 63))⟩, ⟨(some 65), none, .fld 4 (.tmp 1)⟩, ⟨(some 66), none, .load false 1 (.tmp 65)⟩, ⟨(some 67), none, .fld 4 (.tmp 1)⟩, ⟨(some 68), none, .load false 1 (.tmp 67)⟩, ⟨(some 69), none, .len false (.tmp 68)⟩, ⟨(some 70), none, .mm false (.tmp 69) [(.cst (.int .i64 40))]⟩, ⟨(some 71), none, .slc false 2 (.tmp 66) none (some (.tmp 70))⟩, ⟨(some 72), none, .fld 3 (.tmp 1)⟩, ⟨none, none, .store 1 (.tmp 72) (.tmp 64)⟩, ⟨(some 73), none, .fld 4 (.tmp 1)⟩, ⟨none, none, .store 1 (.tmp 73) (.tmp 71)⟩]
def pcashbooklaw26_fewr15 : List GOp := [⟨(some 74), none, .load true 5 (.tmp 1)⟩, ⟨none, none, .store 5 (.tmp 2) (.tmp 74)⟩]
def pcashbooklaw26_fewb : AC := (.seq (.ops pcashbooklaw26_fewr0) (.seq (.ops pcashbooklaw26_fewr1) (.seq (.draw [] pcashbooklaw26_fewr2) (.seq (.ops pcashbooklaw26_fewr3) (.seq (.seq (.ops pcashbooklaw26_fewr4) (.cond (.tmp 30) (.seq (.ops pcashbooklaw26_fewr5) (.seq (.seq (.ops pcashbooklaw26_fewr6) (.block 0 (.loop [1, 2, 4, 37, 38, 39] [] pcashbooklaw26_fewl12))) (.keep [.loc 4 0] [(1, false), (2, false), (4, true)] [(.loc 1 0, false), (.loc 2 0, false)] [.loc 3 0] [] (.ops pcashbooklaw26_fewr13)))) .skip)) (.seq (.keep [] [(1, false), (2, false)] [(.loc 1 0, false), (.loc 2 0, false)] [.loc 3 0] [] (.draw [] pcashbooklaw26_fewr14)) (.seq (.ops pcashbooklaw26_fewr15) (.keep [] [(2, false)] [(.loc 2 0, false)] [.loc 1 0] [] .ret))))))))
def pcashbooklaw26_few : Fd := ⟨1, [.cell 2 true 5], [], pcashbooklaw26_fewb⟩
theorem pcashbooklaw26_few_ag : agreeF Tryz.prog Tryz.f7 pcashbooklaw26_few = true := by kernel_rfl
theorem cashbooklaw26_few_ok {t1 : T_api_Till} {r : T_api_Till} (h : cashbooklaw26_few t1 = some r) : Contract Tryz.prog 7 [.pv (T_api_Till.pv t1)] [] ⟨.pv (T_api_Till.pv r), [], []⟩ := by
 refine contract_fin hm Tryz.func7 pcashbooklaw26_few_ag (by kernel_rfl) ?_
 unfold cashbooklaw26_few at h
 refine W.seqOps (RunR.all (by kernel_rfl)) ?_
 refine W.seqOps (RunR.all (by kernel_rfl)) ?_
 replace h := bindS h
 obtain ⟨x2, hx2, h⟩ := h
 replace h := bindS h
 obtain ⟨x3, hx3, h⟩ := h
 refine W.seqDraw tab_nil (Run.stat 4 (by kernel_rfl) (Run.dyn (Step.lenT (f := T_api_Customer.pv) (l := t1.f_Chart.f_Customers) (by kernel_rfl)) (Run.stat 1 (by kernel_rfl) (Run.dyn (Step.slcL (f := T_api_Customer.pv) (l := t1.f_Chart.f_Customers) (m := x2) (a := 0) (b := (if 20 < (t1.f_Chart.f_Customers.length : Int) then 20 else (t1.f_Chart.f_Customers.length : Int))) (by kernel_rfl) (Bd.none rfl) (Bd.some (k := .i64) (by kernel_rfl)) hx2 (fun _ => rfl)) (Run.stat 4 (by kernel_rfl) (Run.dyn (Step.lenT (f := T_api_Record.pv) (l := t1.f_Chart.f_Records) (by kernel_rfl)) (Run.stat 1 (by kernel_rfl) (Run.dyn (Step.slcL (f := T_api_Record.pv) (l := t1.f_Chart.f_Records) (m := x3) (a := 0) (b := (if 30 < (t1.f_Chart.f_Records.length : Int) then 30 else (t1.f_Chart.f_Records.length : Int))) (by kernel_rfl) (Bd.none rfl) (Bd.some (k := .i64) (by kernel_rfl)) hx3 (fun _ => rfl)) (Run.all (by kernel_rfl)))))))))) ?_
 refine W.seqOps (RunR.all (by kernel_rfl)) ?_
 refine W.assoc ?_
 refine W.seqOps (RunR.stat 2 (by kernel_rfl) (RunR.dyn (Step.lenT (f := T_api_Posting.pv) (l := t1.f_L) (by kernel_rfl)) (RunR.all (by kernel_rfl)))) ?_
 replace h := bindS h
 obtain ⟨j4, hj4, h⟩ := h
 refine W.join (j := j4) (fun p σ => σ.tidy [] [(1, false), (2, false)] [(.loc 1 0, false), (.loc 2 0, false)] [.loc 3 0] [] = ⟨[(1, .ptr (.loc 1 0) 0), (2, .ptr (.loc 2 0) 0)], [(.loc 1 0, .box [.pv (.slice (List.map T_api_Customer.pv x2)), .pv (.slice (List.map T_api_Record.pv x3)), .pv (.slice (List.map T_api_Posting.pv p)), .pv (.slice (List.map T_api_Hold.pv t1.f_Holds)), .pv (.slice (List.map T_api_Limit.pv t1.f_Limits))]), (.loc 2 0, .box [.nils, .nils, .nils, .nils, .nils])]⟩) ?_ (fun σj4 hsj4 => ?_)
 ·replace h := hj4
  refine W.condI (t := decide ((t1.f_L.length : Int) ≤ 2000)) (by kernel_rfl) h (fun hc h' => ?_) (fun hc h' => ?_)
  ·replace h := h'
   refine W.seqOps (RunR.all (by kernel_rfl)) ?_
   refine W.assoc ?_
   replace h := bindS h
   obtain ⟨x5, hx5, h⟩ := h
   refine W.seqOps (RunR.stat 4 (by kernel_rfl) (RunR.dyn (Step.lenT (f := T_api_Posting.pv) (l := t1.f_L) (by kernel_rfl)) (RunR.stat 1 (by kernel_rfl) (RunR.dyn (Step.slcL (f := T_api_Posting.pv) (l := t1.f_L) (m := x5) (a := 0) (b := (if 40 < (t1.f_L.length : Int) then 40 else (t1.f_L.length : Int))) (by kernel_rfl) (Bd.none rfl) (Bd.some (k := .i64) (by kernel_rfl)) hx5 (fun _ => rfl)) (RunR.dyn (Step.lenT (f := T_api_Posting.pv) (l := x5) (by kernel_rfl)) (RunR.all (by kernel_rfl))))))) ?_
   replace h := bindS h
   obtain ⟨j6, hj6, h⟩ := h
   refine W.join (j := j6) (fun p σ => σ.tidy [.loc 4 0] [(1, false), (2, false), (4, true)] [(.loc 1 0, false), (.loc 2 0, false)] [.loc 3 0] [] = ⟨[(1, .ptr (.loc 1 0) 0), (2, .ptr (.loc 2 0) 0), (4, .pv (.slice (List.map T_api_Posting.pv p)))], [(.loc 1 0, .box [.pv (.slice (List.map T_api_Customer.pv x2)), .pv (.slice (List.map T_api_Record.pv x3)), .pv (.slice (List.map T_api_Posting.pv t1.f_L)), .pv (.slice (List.map T_api_Hold.pv t1.f_Holds)), .pv (.slice (List.map T_api_Limit.pv t1.f_Limits))]), (.loc 2 0, .box [.nils, .nils, .nils, .nils, .nils])]⟩) ?_ (fun σj6 hsj6 => ?_)
   ·refine W.blockLoop (fun q σ => ((σ.forget [1, 2, 4, 37, 38, 39]).killAll []).tidy [] [(1, false), (2, false), (4, false), (37, false), (38, false), (39, false)] [(.loc 4 0, false), (.loc 1 0, false), (.loc 2 0, false)] [.loc 3 0, .loc 6 0] [.slot 4 (.loc 4 0) 7] = ⟨[(1, .ptr (.loc 1 0) 0), (2, .ptr (.loc 2 0) 0), (4, .own (.loc 4 0)), (37, .pv (.slice (List.map T_api_Posting.pv x5))), (38, .pv (.int .i64 (x5.length : Int))), (39, .pv (.int .i64 q.1))], [(.loc 4 0, .row 7 (List.map T_api_Posting.pv q.2)), (.loc 1 0, .box [.pv (.slice (List.map T_api_Customer.pv x2)), .pv (.slice (List.map T_api_Record.pv x3)), .pv (.slice (List.map T_api_Posting.pv t1.f_L)), .pv (.slice (List.map T_api_Hold.pv t1.f_Holds)), .pv (.slice (List.map T_api_Limit.pv t1.f_Limits))]), (.loc 2 0, .box [.nils, .nils, .nils, .nils, .nils])]⟩) hj6 ?_ ?_
    ·show _ = _
     kernel_rfl
    ·intro q σj6 oj6 hJj6 h
     obtain ⟨x7, row8⟩ := q
     refine W.keep hJj6 ?_
     refine W.seqOps (RunR.all (by kernel_rfl)) ?_
     refine W.seqCond (t := decide (x7 < (x5.length : Int))) (by kernel_rfl) h (fun hc h' => ?_) (fun hc h' => ?_)
     ·replace h := h'
      refine W.seqSkip ?_
      refine W.seqPass ?_
      refine W.assoc ?_
      replace h := bindS h
      obtain ⟨x9, hx9, h⟩ := h
      refine W.seqOps (RunR.dyn (Step.idxT (f := T_api_Posting.pv) (l := x5) (n := x7) (e := x9) (k := .i64) (by kernel_rfl) (by kernel_rfl) hx9 (by kernel_rfl)) (RunR.all (by kernel_rfl))) ?_
      refine W.assoc ?_
      replace h := bindS h
      obtain ⟨x10, hx10, h⟩ := h
      refine W.seqOps (RunR.stat 4 (by kernel_rfl) (RunR.dyn (Step.lenT (f := T_api_Leg.pv) (l := x9.f_Legs) (by kernel_rfl)) (RunR.stat 1 (by kernel_rfl) (RunR.dyn (Step.slcL (f := T_api_Leg.pv) (l := x9.f_Legs) (m := x10) (a := 0) (b := (if 6 < (x9.f_Legs.length : Int) then 6 else (x9.f_Legs.length : Int))) (by kernel_rfl) (Bd.none rfl) (Bd.some (k := .i64) (by kernel_rfl)) hx10 (fun _ => rfl)) (RunR.all (by kernel_rfl)))))) ?_
      replace h := bindS h
      obtain ⟨x11, hx11, h⟩ := h
      refine W.seqOps (RunR.stat 3 (by kernel_rfl) (RunR.dyn (Step.appendOwnT (k := .loc 4 0) (f := T_api_Posting.pv) (l := row8) (m := [(⟨x9.f_ID, x9.f_Known, x9.f_Value, x10, x9.f_Reverses, x9.f_Kind, x9.f_Memo⟩ : T_api_Posting)]) (by kernel_rfl) (by kernel_rfl) (by kernel_rfl) hx11 (fun _ => rfl) (by kernel_rfl)) (RunR.all (by kernel_rfl)))) ?_
      refine W.ops (RunR.all (by kernel_rfl)) ?_
      cases h
      exact (outw_in (by (show _ = _); kernel_rfl))
     ·replace h := h'
      cases h
      exact W.seqExit ((outw_out exit_ne (bnorm_x (by (show _ = _); kernel_rfl))))
   ·refine W.keep hsj6 ?_
    refine W.ops (RunR.all (by kernel_rfl)) ?_
    cases h
    exact (normw (by (show _ = _); kernel_rfl))
  ·replace h := h'
   cases h
   exact W.skip ((normw (by (show _ = _); kernel_rfl)))
 ·refine W.seqKeep hsj4 ?_
  replace h := bindS h
  obtain ⟨x14, hx14, h⟩ := h
  replace h := bindS h
  obtain ⟨x15, hx15, h⟩ := h
  refine W.seqDraw tab_nil (Run.stat 4 (by kernel_rfl) (Run.dyn (Step.lenT (f := T_api_Hold.pv) (l := t1.f_Holds) (by kernel_rfl)) (Run.stat 1 (by kernel_rfl) (Run.dyn (Step.slcL (f := T_api_Hold.pv) (l := t1.f_Holds) (m := x14) (a := 0) (b := (if 40 < (t1.f_Holds.length : Int) then 40 else (t1.f_Holds.length : Int))) (by kernel_rfl) (Bd.none rfl) (Bd.some (k := .i64) (by kernel_rfl)) hx14 (fun _ => rfl)) (Run.stat 4 (by kernel_rfl) (Run.dyn (Step.lenT (f := T_api_Limit.pv) (l := t1.f_Limits) (by kernel_rfl)) (Run.stat 1 (by kernel_rfl) (Run.dyn (Step.slcL (f := T_api_Limit.pv) (l := t1.f_Limits) (m := x15) (a := 0) (b := (if 40 < (t1.f_Limits.length : Int) then 40 else (t1.f_Limits.length : Int))) (by kernel_rfl) (Bd.none rfl) (Bd.some (k := .i64) (by kernel_rfl)) hx15 (fun _ => rfl)) (Run.all (by kernel_rfl)))))))))) ?_
  refine W.seqOps (RunR.all (by kernel_rfl)) ?_
  refine W.keep rfl ?_
  cases h
  exact W.ret ((fin_ret (by kernel_rfl)))
def pavail_in_Accountr0 : List GOp := [⟨(some 6), none, .mov (.cst (.bool false))⟩]
def pavail_in_Accountr1 : List GOp := [⟨(some 7), none, .mov (.tmp 0)⟩, ⟨(some 8), none, .mov (.tmp 1)⟩, ⟨(some 9), none, .bin false .geq (.tmp 7) (.tmp 8)⟩, ⟨(some 10), none, .mov (.tmp 9)⟩, ⟨(some 11), (some (10, true)), .mov (.tmp 0)⟩, ⟨(some 12), (some (10, true)), .mov (.tmp 2)⟩, ⟨(some 13), (some (10, true)), .bin false .leq (.tmp 11) (.tmp 12)⟩, ⟨(some 14), none, .pick (.tmp 10) (.tmp 13) (.cst (.bool false))⟩, ⟨(some 6), none, .mov (.tmp 14)⟩]
def pavail_in_Accountb : AC := (.seq (.ops pavail_in_Accountr0) (.seq (.ops pavail_in_Accountr1) (.keep [] [(6, false)] [] [] [] .ret)))
def pavail_in_Account : Fd := ⟨3, [.tmp 6], [], pavail_in_Accountb⟩
theorem pavail_in_Account_ag : agreeF Tryz.prog Tryz.f33 pavail_in_Account = true := by kernel_rfl
theorem avail_in_Account_ok {n1 : Int} {low2 : Int} {high3 : Int} {r : Bool} (h : avail_in_Account n1 low2 high3 = some r) : Contract Tryz.prog 33 [.pv (.int .i64 n1), .pv (.int .i64 low2), .pv (.int .i64 high3)] [] ⟨.pv (.bool r), [], []⟩ := by
 refine contract_fin hm Tryz.func33 pavail_in_Account_ag (by kernel_rfl) ?_
 unfold avail_in_Account at h
 refine W.seqOps (RunR.all (by kernel_rfl)) ?_
 replace h := bindS h
 obtain ⟨c4, hc4, h⟩ := h
 refine W.seqOps (RunR.stat 3 (by kernel_rfl) (RunR.dyn (Step.name (f := eBool) (e := decide (n1 ≥ low2)) (c := c4) (by kernel_rfl) hc4) (RunR.puts 4 [(14, .pv (.bool (c4 && (decide (n1 ≤ high3))))), (13, (bif c4 then (.pv (.bool (decide (n1 ≤ high3)))) else (.tup []))), (12, (bif c4 then (.pv (.int .i64 high3)) else (.tup []))), (11, (bif c4 then (.pv (.int .i64 n1)) else (.tup [])))] (by cases c4 <;> kernel_rfl) (RunR.all (by kernel_rfl))))) ?_
 refine W.keep rfl ?_
 cases h
 exact W.ret ((fin_ret (by kernel_rfl)))
def pavail_in_int64r0 : List GOp := [⟨(some 6), none, .mov (.cst (.bool false))⟩]
def pavail_in_int64r1 : List GOp := [⟨(some 7), none, .mov (.tmp 0)⟩, ⟨(some 8), none, .mov (.tmp 1)⟩, ⟨(some 9), none, .bin false .geq (.tmp 7) (.tmp 8)⟩, ⟨(some 10), none, .mov (.tmp 9)⟩, ⟨(some 11), (some (10, true)), .mov (.tmp 0)⟩, ⟨(some 12), (some (10, true)), .mov (.tmp 2)⟩, ⟨(some 13), (some (10, true)), .bin false .leq (.tmp 11) (.tmp 12)⟩, ⟨(some 14), none, .pick (.tmp 10) (.tmp 13) (.cst (.bool false))⟩, ⟨(some 6), none, .mov (.tmp 14)⟩]
def pavail_in_int64b : AC := (.seq (.ops pavail_in_int64r0) (.seq (.ops pavail_in_int64r1) (.keep [] [(6, false)] [] [] [] .ret)))
def pavail_in_int64 : Fd := ⟨3, [.tmp 6], [], pavail_in_int64b⟩
theorem pavail_in_int64_ag : agreeF Tryz.prog Tryz.f32 pavail_in_int64 = true := by kernel_rfl
theorem avail_in_int64_ok {n1 : Int} {low2 : Int} {high3 : Int} {r : Bool} (h : avail_in_int64 n1 low2 high3 = some r) : Contract Tryz.prog 32 [.pv (.int .i64 n1), .pv (.int .i64 low2), .pv (.int .i64 high3)] [] ⟨.pv (.bool r), [], []⟩ := by
 refine contract_fin hm Tryz.func32 pavail_in_int64_ag (by kernel_rfl) ?_
 unfold avail_in_int64 at h
 refine W.seqOps (RunR.all (by kernel_rfl)) ?_
 replace h := bindS h
 obtain ⟨c4, hc4, h⟩ := h
 refine W.seqOps (RunR.stat 3 (by kernel_rfl) (RunR.dyn (Step.name (f := eBool) (e := decide (n1 ≥ low2)) (c := c4) (by kernel_rfl) hc4) (RunR.puts 4 [(14, .pv (.bool (c4 && (decide (n1 ≤ high3))))), (13, (bif c4 then (.pv (.bool (decide (n1 ≤ high3)))) else (.tup []))), (12, (bif c4 then (.pv (.int .i64 high3)) else (.tup []))), (11, (bif c4 then (.pv (.int .i64 n1)) else (.tup [])))] (by cases c4 <;> kernel_rfl) (RunR.all (by kernel_rfl))))) ?_
 refine W.keep rfl ?_
 cases h
 exact W.ret ((fin_ret (by kernel_rfl)))
def pchart_idOfr0 : List GOp := [⟨(some 1), none, .box (.tmp 0)⟩, ⟨(some 2), none, .mov (.cst (.int .i64 0))⟩]
def pchart_idOfr1 : List GOp := [⟨(some 3), none, .fld 0 (.tmp 1)⟩, ⟨(some 4), none, .load false 1 (.tmp 3)⟩, ⟨(some 2), none, .mov (.tmp 4)⟩]
def pchart_idOfb : AC := (.seq (.ops pchart_idOfr0) (.seq (.ops pchart_idOfr1) (.keep [] [(2, false)] [] [.loc 1 0] [] .ret)))
def pchart_idOf : Fd := ⟨1, [.tmp 2], [], pchart_idOfb⟩
theorem pchart_idOf_ag : agreeF Tryz.prog Tryz.f73 pchart_idOf = true := by kernel_rfl
theorem chart_idOf_ok {x1 : T_api_Customer} {r : Int} (h : chart_idOf x1 = some r) : Contract Tryz.prog 73 [.pv (T_api_Customer.pv x1)] [] ⟨.pv (.int .i64 r), [], []⟩ := by
 refine contract_fin hm Tryz.func73 pchart_idOf_ag (by kernel_rfl) ?_
 unfold chart_idOf at h
 refine W.seqOps (RunR.all (by kernel_rfl)) ?_
 refine W.seqOps (RunR.all (by kernel_rfl)) ?_
 refine W.keep rfl ?_
 cases h
 exact W.ret ((fin_ret (by kernel_rfl)))
def pchart_rises_Customer_intr0 : List GOp := [⟨(some 4), none, .mov (.cst (.bool false))⟩]
def pchart_rises_Customer_intr1 : List GOp := [⟨(some 5), none, .mov (.cst (.int .i64 1))⟩]
def pchart_rises_Customer_intr2 : List GOp := [⟨(some 6), none, .mov (.tmp 5)⟩, ⟨(some 7), none, .mov (.tmp 0)⟩, ⟨(some 8), none, .len false (.tmp 7)⟩, ⟨(some 9), none, .bin false .lss (.tmp 6) (.tmp 8)⟩]
def pchart_rises_Customer_intr3 : List GOp := [⟨(some 12), none, .mov (.tmp 1)⟩, ⟨(some 13), none, .mov (.tmp 0)⟩, ⟨(some 14), none, .mov (.tmp 5)⟩, ⟨(some 15), none, .bin false .sub (.tmp 14) (.cst (.int .i64 1))⟩, ⟨(some 16), none, .idx 3 (.tmp 13) (.tmp 15)⟩, ⟨(some 17), none, .load true 3 (.tmp 16)⟩, ⟨(some 18), none, .call 0 0 (.tmp 12) [(.tmp 17)] [] []⟩, ⟨(some 19), none, .mov (.tmp 1)⟩, ⟨(some 20), none, .mov (.tmp 0)⟩, ⟨(some 21), none, .mov (.tmp 5)⟩, ⟨(some 22), none, .idx 3 (.tmp 20) (.tmp 21)⟩, ⟨(some 23), none, .load true 3 (.tmp 22)⟩, ⟨(some 24), none, .call 0 0 (.tmp 19) [(.tmp 23)] [] []⟩, ⟨(some 25), none, .bin false .geq (.tmp 18) (.tmp 24)⟩]
def pchart_rises_Customer_intr4 : List GOp := [⟨(some 4), none, .mov (.cst (.bool false))⟩]
def pchart_rises_Customer_intr5 : List GOp := [⟨(some 10), none, .mov (.tmp 5)⟩, ⟨(some 11), none, .bin false .add (.tmp 10) (.cst (.int .i64 1))⟩, ⟨(some 5), none, .mov (.tmp 11)⟩]
def pchart_rises_Customer_intl6 : AC := (.keep [] [(0, false), (1, false), (5, false)] [] [] [] (.seq (.seq (.ops pchart_rises_Customer_intr2) (.cond (.tmp 9) .skip (.exit 0))) (.seq (.pass 1 (.seq (.draw [] pchart_rises_Customer_intr3) (.cond (.tmp 25) (.seq (.ops pchart_rises_Customer_intr4) (.keep [] [(4, false)] [] [] [] .ret)) .skip))) (.ops pchart_rises_Customer_intr5))))
def pchart_rises_Customer_intr7 : List GOp := [⟨(some 4), none, .mov (.cst (.bool true))⟩]
def pchart_rises_Customer_intb : AC := (.seq (.ops pchart_rises_Customer_intr0) (.seq (.seq (.ops pchart_rises_Customer_intr1) (.block 0 (.loop [0, 1, 5] [] pchart_rises_Customer_intl6))) (.seq (.keep [] [] [] [] [] (.ops pchart_rises_Customer_intr7)) (.keep [] [(4, false)] [] [] [] .ret))))
def pchart_rises_Customer_int : Fd := ⟨2, [.tmp 4], [], pchart_rises_Customer_intb⟩
theorem pchart_rises_Customer_int_ag : agreeF Tryz.prog Tryz.f72 pchart_rises_Customer_int = true := by kernel_rfl
theorem chart_rises_Customer_int_ok {l1 : List T_api_Customer} {r : Bool} (h : chart_rises_Customer_int l1 = some r) : Contract Tryz.prog 72 [.pv (.slice (List.map T_api_Customer.pv l1)), .pv (.fn 73)] [] ⟨.pv (.bool r), [], []⟩ := by
 refine contract_fin hm Tryz.func72 pchart_rises_Customer_int_ag (by kernel_rfl) ?_
 unfold chart_rises_Customer_int at h
 refine W.seqOps (RunR.all (by kernel_rfl)) ?_
 refine W.assoc ?_
 refine W.seqOps (RunR.all (by kernel_rfl)) ?_
 replace h := bindS h
 obtain ⟨j2, hj2, h⟩ := h
 refine W.joinOut (j := j2) (o := r) (fun p σ => σ.tidy [] [] [] [] [] = ⟨[], []⟩) ?_ (fun p σj2 hp hsj2 => ?_) (fun p hp => ?_)
 ·refine W.blockLoopO (fun q σ => ((σ.forget [0, 1, 5]).killAll []).tidy [] [(0, false), (1, false), (5, false)] [] [] [] = ⟨[(0, .pv (.slice (List.map T_api_Customer.pv l1))), (1, .pv (.fn 73)), (5, .pv (.int .i64 q))], []⟩) hj2 ?_ ?_
  ·show _ = _
   kernel_rfl
  ·intro i3 σj2 oj2 hJj2 h
   refine W.keep hJj2 ?_
   refine W.assoc ?_
   refine W.seqOps (RunR.stat 2 (by kernel_rfl) (RunR.dyn (Step.lenT (f := T_api_Customer.pv) (l := l1) (by kernel_rfl)) (RunR.all (by kernel_rfl)))) ?_
   refine W.seqCond (t := decide (i3 < (l1.length : Int))) (by kernel_rfl) h (fun hc h' => ?_) (fun hc h' => ?_)
   ·replace h := h'
    refine W.seqSkip ?_
    refine W.seqPass ?_
    refine W.assoc ?_
    replace h := bindS h
    obtain ⟨x4, hx4, h⟩ := h
    replace h := bindS h
    obtain ⟨x5, hx5, h⟩ := h
    replace h := bindS h
    obtain ⟨x6, hx6, h⟩ := h
    replace h := bindS h
    obtain ⟨x7, hx7, h⟩ := h
    refine W.seqDraw (tab_cons (on := true) (fun _ => chart_idOf_ok hx5) (tab_cons (on := true) (fun _ => chart_idOf_ok hx7) tab_nil)) (Run.stat 4 (by kernel_rfl) (Run.dyn (Step.idxT (f := T_api_Customer.pv) (l := l1) (n := IntKind.wrap .i64 (i3 - 1)) (e := x4) (k := .i64) (by kernel_rfl) (by kernel_rfl) hx4 (by kernel_rfl)) (Run.stat 1 (by kernel_rfl) (Run.dyn (Step.call0 (g := 73) (caps := []) (v := .pv (.int .i64 x5)) (by kernel_rfl) (by kernel_rfl) (by kernel_rfl) (tab_hit (by kernel_rfl)) (by kernel_rfl)) (Run.stat 3 (by kernel_rfl) (Run.dyn (Step.idxT (f := T_api_Customer.pv) (l := l1) (n := i3) (e := x6) (k := .i64) (by kernel_rfl) (by kernel_rfl) hx6 (by kernel_rfl)) (Run.stat 1 (by kernel_rfl) (Run.dyn (Step.call0 (g := 73) (caps := []) (v := .pv (.int .i64 x7)) (by kernel_rfl) (by kernel_rfl) (by kernel_rfl) (tab_same (fun ho e => congrArg (fun r => (⟨.pv (.int .i64 r), [], []⟩ : Res)) (Option.some.inj ((Eq.symm hx5).trans (Eq.trans (by first | rfl | (simp only [List.cons.injEq, SV.pv.injEq, PV.int.injEq, PV.bool.injEq, PV.str.injEq, PV.slice.injEq, and_true, true_and, eInt_maps, eStr_maps, eBool_maps, T_api_Customer.pv_inj, T_api_Customer.pv_maps, T_api_Record.pv_inj, T_api_Record.pv_maps, T_api_Chart.pv_inj, T_api_Chart.pv_maps, T_api_Money.pv_inj, T_api_Money.pv_maps, T_api_Leg.pv_inj, T_api_Leg.pv_maps, T_api_Posting.pv_inj, T_api_Posting.pv_maps, T_api_Hold.pv_inj, T_api_Hold.pv_maps, T_api_Limit.pv_inj, T_api_Limit.pv_maps, T_api_Till.pv_inj, T_api_Till.pv_maps, T_balance_great.pv_inj, T_balance_great.pv_maps, T_balance_leg.pv_inj, T_balance_leg.pv_maps, T_avail_account.pv_inj, T_avail_account.pv_maps, T_cashbookref21_L.pv_inj, T_cashbookref21_L.pv_maps] at e; simp only [e])) hx7)))) (tab_hit (by kernel_rfl))) (by kernel_rfl)) (Run.all (by kernel_rfl)))))))))) ?_
    refine W.seqCond (t := decide (x5 ≥ x7)) (by kernel_rfl) h (fun hc h' => ?_) (fun hc h' => ?_)
    ·replace h := h'
     refine W.assoc ?_
     refine W.seqOps (RunR.all (by kernel_rfl)) ?_
     refine W.seqKeep rfl ?_
     cases h
     exact W.seqRet ((outw_out ret_ne (bout_o ret_ne ret_ne' (fun e => by subst e; exact (fin_ret (by kernel_rfl))))))
    ·replace h := h'
     refine W.seqSkip ?_
     refine W.ops (RunR.all (by kernel_rfl)) ?_
     cases h
     exact (outw_in (by (show _ = _); kernel_rfl))
   ·replace h := h'
    cases h
    exact W.seqExit ((outw_out exit_ne (bout_x (by (show _ = _); kernel_rfl))))
 ·subst hp
  obtain ⟨⟩ := p
  refine W.seqKeep hsj2 ?_
  refine W.seqOps (RunR.all (by kernel_rfl)) ?_
  refine W.keep rfl ?_
  cases h
  exact W.ret ((fin_ret (by kernel_rfl)))
 ·subst hp
  exact Option.some.inj h
def pchart_accOfr0 : List GOp := [⟨(some 1), none, .box (.tmp 0)⟩, ⟨(some 2), none, .mov (.cst (.int .i64 0))⟩]
def pchart_accOfr1 : List GOp := [⟨(some 3), none, .fld 0 (.tmp 1)⟩, ⟨(some 4), none, .load false 1 (.tmp 3)⟩, ⟨(some 2), none, .mov (.tmp 4)⟩]
def pchart_accOfb : AC := (.seq (.ops pchart_accOfr0) (.seq (.ops pchart_accOfr1) (.keep [] [(2, false)] [] [.loc 1 0] [] .ret)))
def pchart_accOf : Fd := ⟨1, [.tmp 2], [], pchart_accOfb⟩
theorem pchart_accOf_ag : agreeF Tryz.prog Tryz.f75 pchart_accOf = true := by kernel_rfl
theorem chart_accOf_ok {r1 : T_api_Record} {r : Int} (h : chart_accOf r1 = some r) : Contract Tryz.prog 75 [.pv (T_api_Record.pv r1)] [] ⟨.pv (.int .i64 r), [], []⟩ := by
 refine contract_fin hm Tryz.func75 pchart_accOf_ag (by kernel_rfl) ?_
 unfold chart_accOf at h
 refine W.seqOps (RunR.all (by kernel_rfl)) ?_
 refine W.seqOps (RunR.all (by kernel_rfl)) ?_
 refine W.keep rfl ?_
 cases h
 exact W.ret ((fin_ret (by kernel_rfl)))
def pchart_rises_Record_Accountr0 : List GOp := [⟨(some 4), none, .mov (.cst (.bool false))⟩]
def pchart_rises_Record_Accountr1 : List GOp := [⟨(some 5), none, .mov (.cst (.int .i64 1))⟩]
def pchart_rises_Record_Accountr2 : List GOp := [⟨(some 6), none, .mov (.tmp 5)⟩, ⟨(some 7), none, .mov (.tmp 0)⟩, ⟨(some 8), none, .len false (.tmp 7)⟩, ⟨(some 9), none, .bin false .lss (.tmp 6) (.tmp 8)⟩]
def pchart_rises_Record_Accountr3 : List GOp := [⟨(some 12), none, .mov (.tmp 1)⟩, ⟨(some 13), none, .mov (.tmp 0)⟩, ⟨(some 14), none, .mov (.tmp 5)⟩, ⟨(some 15), none, .bin false .sub (.tmp 14) (.cst (.int .i64 1))⟩, ⟨(some 16), none, .idx 8 (.tmp 13) (.tmp 15)⟩, ⟨(some 17), none, .load true 8 (.tmp 16)⟩, ⟨(some 18), none, .call 0 0 (.tmp 12) [(.tmp 17)] [] []⟩, ⟨(some 19), none, .mov (.tmp 1)⟩, ⟨(some 20), none, .mov (.tmp 0)⟩, ⟨(some 21), none, .mov (.tmp 5)⟩, ⟨(some 22), none, .idx 8 (.tmp 20) (.tmp 21)⟩, ⟨(some 23), none, .load true 8 (.tmp 22)⟩, ⟨(some 24), none, .call 0 0 (.tmp 19) [(.tmp 23)] [] []⟩, ⟨(some 25), none, .bin false .geq (.tmp 18) (.tmp 24)⟩]
def pchart_rises_Record_Accountr4 : List GOp := [⟨(some 4), none, .mov (.cst (.bool false))⟩]
def pchart_rises_Record_Accountr5 : List GOp := [⟨(some 10), none, .mov (.tmp 5)⟩, ⟨(some 11), none, .bin false .add (.tmp 10) (.cst (.int .i64 1))⟩, ⟨(some 5), none, .mov (.tmp 11)⟩]
def pchart_rises_Record_Accountl6 : AC := (.keep [] [(0, false), (1, false), (5, false)] [] [] [] (.seq (.seq (.ops pchart_rises_Record_Accountr2) (.cond (.tmp 9) .skip (.exit 0))) (.seq (.pass 1 (.seq (.draw [] pchart_rises_Record_Accountr3) (.cond (.tmp 25) (.seq (.ops pchart_rises_Record_Accountr4) (.keep [] [(4, false)] [] [] [] .ret)) .skip))) (.ops pchart_rises_Record_Accountr5))))
def pchart_rises_Record_Accountr7 : List GOp := [⟨(some 4), none, .mov (.cst (.bool true))⟩]
def pchart_rises_Record_Accountb : AC := (.seq (.ops pchart_rises_Record_Accountr0) (.seq (.seq (.ops pchart_rises_Record_Accountr1) (.block 0 (.loop [0, 1, 5] [] pchart_rises_Record_Accountl6))) (.seq (.keep [] [] [] [] [] (.ops pchart_rises_Record_Accountr7)) (.keep [] [(4, false)] [] [] [] .ret))))
def pchart_rises_Record_Account : Fd := ⟨2, [.tmp 4], [], pchart_rises_Record_Accountb⟩
theorem pchart_rises_Record_Account_ag : agreeF Tryz.prog Tryz.f74 pchart_rises_Record_Account = true := by kernel_rfl
theorem chart_rises_Record_Account_ok {l1 : List T_api_Record} {r : Bool} (h : chart_rises_Record_Account l1 = some r) : Contract Tryz.prog 74 [.pv (.slice (List.map T_api_Record.pv l1)), .pv (.fn 75)] [] ⟨.pv (.bool r), [], []⟩ := by
 refine contract_fin hm Tryz.func74 pchart_rises_Record_Account_ag (by kernel_rfl) ?_
 unfold chart_rises_Record_Account at h
 refine W.seqOps (RunR.all (by kernel_rfl)) ?_
 refine W.assoc ?_
 refine W.seqOps (RunR.all (by kernel_rfl)) ?_
 replace h := bindS h
 obtain ⟨j2, hj2, h⟩ := h
 refine W.joinOut (j := j2) (o := r) (fun p σ => σ.tidy [] [] [] [] [] = ⟨[], []⟩) ?_ (fun p σj2 hp hsj2 => ?_) (fun p hp => ?_)
 ·refine W.blockLoopO (fun q σ => ((σ.forget [0, 1, 5]).killAll []).tidy [] [(0, false), (1, false), (5, false)] [] [] [] = ⟨[(0, .pv (.slice (List.map T_api_Record.pv l1))), (1, .pv (.fn 75)), (5, .pv (.int .i64 q))], []⟩) hj2 ?_ ?_
  ·show _ = _
   kernel_rfl
  ·intro i3 σj2 oj2 hJj2 h
   refine W.keep hJj2 ?_
   refine W.assoc ?_
   refine W.seqOps (RunR.stat 2 (by kernel_rfl) (RunR.dyn (Step.lenT (f := T_api_Record.pv) (l := l1) (by kernel_rfl)) (RunR.all (by kernel_rfl)))) ?_
   refine W.seqCond (t := decide (i3 < (l1.length : Int))) (by kernel_rfl) h (fun hc h' => ?_) (fun hc h' => ?_)
   ·replace h := h'
    refine W.seqSkip ?_
    refine W.seqPass ?_
    refine W.assoc ?_
    replace h := bindS h
    obtain ⟨x4, hx4, h⟩ := h
    replace h := bindS h
    obtain ⟨x5, hx5, h⟩ := h
    replace h := bindS h
    obtain ⟨x6, hx6, h⟩ := h
    replace h := bindS h
    obtain ⟨x7, hx7, h⟩ := h
    refine W.seqDraw (tab_cons (on := true) (fun _ => chart_accOf_ok hx5) (tab_cons (on := true) (fun _ => chart_accOf_ok hx7) tab_nil)) (Run.stat 4 (by kernel_rfl) (Run.dyn (Step.idxT (f := T_api_Record.pv) (l := l1) (n := IntKind.wrap .i64 (i3 - 1)) (e := x4) (k := .i64) (by kernel_rfl) (by kernel_rfl) hx4 (by kernel_rfl)) (Run.stat 1 (by kernel_rfl) (Run.dyn (Step.call0 (g := 75) (caps := []) (v := .pv (.int .i64 x5)) (by kernel_rfl) (by kernel_rfl) (by kernel_rfl) (tab_hit (by kernel_rfl)) (by kernel_rfl)) (Run.stat 3 (by kernel_rfl) (Run.dyn (Step.idxT (f := T_api_Record.pv) (l := l1) (n := i3) (e := x6) (k := .i64) (by kernel_rfl) (by kernel_rfl) hx6 (by kernel_rfl)) (Run.stat 1 (by kernel_rfl) (Run.dyn (Step.call0 (g := 75) (caps := []) (v := .pv (.int .i64 x7)) (by kernel_rfl) (by kernel_rfl) (by kernel_rfl) (tab_same (fun ho e => congrArg (fun r => (⟨.pv (.int .i64 r), [], []⟩ : Res)) (Option.some.inj ((Eq.symm hx5).trans (Eq.trans (by first | rfl | (simp only [List.cons.injEq, SV.pv.injEq, PV.int.injEq, PV.bool.injEq, PV.str.injEq, PV.slice.injEq, and_true, true_and, eInt_maps, eStr_maps, eBool_maps, T_api_Customer.pv_inj, T_api_Customer.pv_maps, T_api_Record.pv_inj, T_api_Record.pv_maps, T_api_Chart.pv_inj, T_api_Chart.pv_maps, T_api_Money.pv_inj, T_api_Money.pv_maps, T_api_Leg.pv_inj, T_api_Leg.pv_maps, T_api_Posting.pv_inj, T_api_Posting.pv_maps, T_api_Hold.pv_inj, T_api_Hold.pv_maps, T_api_Limit.pv_inj, T_api_Limit.pv_maps, T_api_Till.pv_inj, T_api_Till.pv_maps, T_balance_great.pv_inj, T_balance_great.pv_maps, T_balance_leg.pv_inj, T_balance_leg.pv_maps, T_avail_account.pv_inj, T_avail_account.pv_maps, T_cashbookref21_L.pv_inj, T_cashbookref21_L.pv_maps] at e; simp only [e])) hx7)))) (tab_hit (by kernel_rfl))) (by kernel_rfl)) (Run.all (by kernel_rfl)))))))))) ?_
    refine W.seqCond (t := decide (x5 ≥ x7)) (by kernel_rfl) h (fun hc h' => ?_) (fun hc h' => ?_)
    ·replace h := h'
     refine W.assoc ?_
     refine W.seqOps (RunR.all (by kernel_rfl)) ?_
     refine W.seqKeep rfl ?_
     cases h
     exact W.seqRet ((outw_out ret_ne (bout_o ret_ne ret_ne' (fun e => by subst e; exact (fin_ret (by kernel_rfl))))))
    ·replace h := h'
     refine W.seqSkip ?_
     refine W.ops (RunR.all (by kernel_rfl)) ?_
     cases h
     exact (outw_in (by (show _ = _); kernel_rfl))
   ·replace h := h'
    cases h
    exact W.seqExit ((outw_out exit_ne (bout_x (by (show _ = _); kernel_rfl))))
 ·subst hp
  obtain ⟨⟩ := p
  refine W.seqKeep hsj2 ?_
  refine W.seqOps (RunR.all (by kernel_rfl)) ?_
  refine W.keep rfl ?_
  cases h
  exact W.ret ((fin_ret (by kernel_rfl)))
 ·subst hp
  exact Option.some.inj h
def pchart_in_intr0 : List GOp := [⟨(some 6), none, .mov (.cst (.bool false))⟩]
def pchart_in_intr1 : List GOp := [⟨(some 7), none, .mov (.tmp 0)⟩, ⟨(some 8), none, .mov (.tmp 1)⟩, ⟨(some 9), none, .bin false .geq (.tmp 7) (.tmp 8)⟩, ⟨(some 10), none, .mov (.tmp 9)⟩, ⟨(some 11), (some (10, true)), .mov (.tmp 0)⟩, ⟨(some 12), (some (10, true)), .mov (.tmp 2)⟩, ⟨(some 13), (some (10, true)), .bin false .leq (.tmp 11) (.tmp 12)⟩, ⟨(some 14), none, .pick (.tmp 10) (.tmp 13) (.cst (.bool false))⟩, ⟨(some 6), none, .mov (.tmp 14)⟩]
def pchart_in_intb : AC := (.seq (.ops pchart_in_intr0) (.seq (.ops pchart_in_intr1) (.keep [] [(6, false)] [] [] [] .ret)))
def pchart_in_int : Fd := ⟨3, [.tmp 6], [], pchart_in_intb⟩
theorem pchart_in_int_ag : agreeF Tryz.prog Tryz.f119 pchart_in_int = true := by kernel_rfl
theorem chart_in_int_ok {n1 : Int} {low2 : Int} {high3 : Int} {r : Bool} (h : chart_in_int n1 low2 high3 = some r) : Contract Tryz.prog 119 [.pv (.int .i64 n1), .pv (.int .i64 low2), .pv (.int .i64 high3)] [] ⟨.pv (.bool r), [], []⟩ := by
 refine contract_fin hm Tryz.func119 pchart_in_int_ag (by kernel_rfl) ?_
 unfold chart_in_int at h
 refine W.seqOps (RunR.all (by kernel_rfl)) ?_
 replace h := bindS h
 obtain ⟨c4, hc4, h⟩ := h
 refine W.seqOps (RunR.stat 3 (by kernel_rfl) (RunR.dyn (Step.name (f := eBool) (e := decide (n1 ≥ low2)) (c := c4) (by kernel_rfl) hc4) (RunR.puts 4 [(14, .pv (.bool (c4 && (decide (n1 ≤ high3))))), (13, (bif c4 then (.pv (.bool (decide (n1 ≤ high3)))) else (.tup []))), (12, (bif c4 then (.pv (.int .i64 high3)) else (.tup []))), (11, (bif c4 then (.pv (.int .i64 n1)) else (.tup [])))] (by cases c4 <;> kernel_rfl) (RunR.all (by kernel_rfl))))) ?_
 refine W.keep rfl ?_
 cases h
 exact W.ret ((fin_ret (by kernel_rfl)))
def pchart_isCustomer_1r0 : List GOp := [⟨(some 2), none, .mov (.cst (.bool false))⟩]
def pchart_isCustomer_1r1 : List GOp := [⟨(some 3), none, .mov (.tmp 0)⟩, ⟨(some 4), none, .bin false .lss (.tmp 3) (.cst (.int .i32 32))⟩, ⟨(some 5), none, .mov (.tmp 4)⟩, ⟨(some 6), (some (5, false)), .mov (.tmp 0)⟩, ⟨(some 7), (some (5, false)), .bin false .gtr (.tmp 6) (.cst (.int .i32 126))⟩, ⟨(some 8), none, .pick (.tmp 5) (.cst (.bool true)) (.tmp 7)⟩, ⟨(some 2), none, .mov (.tmp 8)⟩]
def pchart_isCustomer_1b : AC := (.seq (.ops pchart_isCustomer_1r0) (.seq (.ops pchart_isCustomer_1r1) (.keep [] [(2, false)] [] [] [] .ret)))
def pchart_isCustomer_1 : Fd := ⟨1, [.tmp 2], [], pchart_isCustomer_1b⟩
theorem pchart_isCustomer_1_ag : agreeF Tryz.prog Tryz.f118 pchart_isCustomer_1 = true := by kernel_rfl
theorem chart_isCustomer_1_ok {r1 : Int} {r : Bool} (h : chart_isCustomer_1 r1 = some r) : Contract Tryz.prog 118 [.pv (.int .i32 r1)] [] ⟨.pv (.bool r), [], []⟩ := by
 refine contract_fin hm Tryz.func118 pchart_isCustomer_1_ag (by kernel_rfl) ?_
 unfold chart_isCustomer_1 at h
 refine W.seqOps (RunR.all (by kernel_rfl)) ?_
 replace h := bindS h
 obtain ⟨c2, hc2, h⟩ := h
 refine W.seqOps (RunR.stat 2 (by kernel_rfl) (RunR.dyn (Step.name (f := eBool) (e := decide (r1 < 32)) (c := c2) (by kernel_rfl) hc2) (RunR.puts 3 [(8, .pv (.bool (c2 || (decide (r1 > 126))))), (7, (bif !c2 then (.pv (.bool (decide (r1 > 126)))) else (.tup []))), (6, (bif !c2 then (.pv (.int .i32 r1)) else (.tup [])))] (by cases c2 <;> kernel_rfl) (RunR.all (by kernel_rfl))))) ?_
 refine W.keep rfl ?_
 cases h
 exact W.ret ((fin_ret (by kernel_rfl)))
def pchart_isCustomerr0 : List GOp := [⟨(some 1), none, .box (.tmp 0)⟩, ⟨(some 2), none, .mov (.cst (.bool false))⟩]
def pchart_isCustomerr1 : List GOp := [⟨(some 3), none, .mov (.cst (.fn 118))⟩]
def pchart_isCustomerr2 : List GOp := [⟨(some 4), none, .fld 0 (.tmp 1)⟩, ⟨(some 5), none, .load false 1 (.tmp 4)⟩, ⟨(some 6), none, .call 0 0 (.cst (.fn 119)) [(.tmp 5), (.cst (.int .i64 1)), (.cst (.int .i64 999))] [] []⟩, ⟨(some 7), none, .mov (.tmp 6)⟩, ⟨(some 8), (some (7, true)), .fld 1 (.tmp 1)⟩, ⟨(some 9), (some (7, true)), .load false 1 (.tmp 8)⟩, ⟨(some 10), (some (7, true)), .len true (.tmp 9)⟩, ⟨(some 11), (some (7, true)), .call 0 0 (.cst (.fn 119)) [(.tmp 10), (.cst (.int .i64 1)), (.cst (.int .i64 32))] [] []⟩, ⟨(some 12), none, .pick (.tmp 7) (.tmp 11) (.cst (.bool false))⟩, ⟨(some 13), none, .mov (.tmp 12)⟩, ⟨(some 14), (some (13, true)), .fld 1 (.tmp 1)⟩, ⟨(some 15), (some (13, true)), .load false 1 (.tmp 14)⟩, ⟨(some 16), (some (13, true)), .mov (.tmp 3)⟩, ⟨(some 17), (some (13, true)), .call 0 0 (.cst (.fn 120)) [(.tmp 15), (.tmp 16)] [] []⟩, ⟨(some 18), (some (13, true)), .un .not (.tmp 17)⟩, ⟨(some 19), none, .pick (.tmp 13) (.tmp 18) (.cst (.bool false))⟩, ⟨(some 20), none, .mov (.tmp 19)⟩, ⟨(some 21), (some (20, true)), .fld 2 (.tmp 1)⟩, ⟨(some 22), (some (20, true)), .load false 1 (.tmp 21)⟩, ⟨(some 23), (some (20, true)), .call 0 0 (.cst (.fn 119)) [(.tmp 22), (.cst (.int .i64 0)), (.cst (.int .i64 3))] [] []⟩, ⟨(some 24), none, .pick (.tmp 20) (.tmp 23) (.cst (.bool false))⟩, ⟨(some 2), none, .mov (.tmp 24)⟩]
def pchart_isCustomerb : AC := (.seq (.ops pchart_isCustomerr0) (.seq (.ops pchart_isCustomerr1) (.seq (.ops pchart_isCustomerr2) (.keep [] [(2, false)] [] [.loc 1 0] [] .ret))))
def pchart_isCustomer : Fd := ⟨1, [.tmp 2], [], pchart_isCustomerb⟩
theorem pchart_isCustomer_ag : agreeF Tryz.prog Tryz.f78 pchart_isCustomer = true := by kernel_rfl
theorem chart_isCustomer_ok {x1 : T_api_Customer} {r : Bool} (h : chart_isCustomer x1 = some r) : Contract Tryz.prog 78 [.pv (T_api_Customer.pv x1)] [] ⟨.pv (.bool r), [], []⟩ := by
 refine contract_fin hm Tryz.func78 pchart_isCustomer_ag (by kernel_rfl) ?_
 unfold chart_isCustomer at h
 refine W.seqOps (RunR.all (by kernel_rfl)) ?_
 refine W.seqOps (RunR.all (by kernel_rfl)) ?_
 replace h := bindS h
 obtain ⟨x2, hx2, h⟩ := h
 replace h := bindS h
 obtain ⟨x3, hx3, h⟩ := h
 replace h := bindS h
 obtain ⟨c4, hc4, h⟩ := h
 replace h := bindS h
 obtain ⟨x5, hx5, h⟩ := h
 replace h := bindS h
 obtain ⟨c6, hc6, h⟩ := h
 replace h := bindS h
 obtain ⟨x7, hx7, h⟩ := h
 refine W.seqOps (RunR.stat 2 (by kernel_rfl) (RunR.cons (tab_cons (on := true) (fun _ => chart_in_int_ok hx2) tab_nil) (Step.call0 (g := 119) (caps := []) (v := .pv (.bool x2)) (by kernel_rfl) (by kernel_rfl) (by kernel_rfl) (tab_hit (by kernel_rfl)) (by kernel_rfl)) (RunR.stat 1 (by kernel_rfl) (RunR.puts 3 [(10, (bif x2 then (.pv (.int .i64 (x1.f_Name.length : Int))) else (.tup []))), (9, (bif x2 then (.pv (.str x1.f_Name)) else (.tup []))), (8, (bif x2 then (.ptr (.loc 1 0) 1) else (.tup [])))] (by cases x2 <;> kernel_rfl) (RunR.cons (tab_cons (on := x2) (fun hg => chart_in_int_ok (gdO_at hg hx3)) tab_nil) (Step.gdG x2 (by kernel_rfl) (by
    cases x2
    ·exact .inl ⟨by kernel_rfl, by kernel_rfl⟩
    ·exact .inr ⟨by kernel_rfl, by kernel_rfl, Step.call0 (g := 119) (caps := []) (v := .pv (.bool x3)) (by kernel_rfl) (by kernel_rfl) (by kernel_rfl) (tab_hit (by kernel_rfl)) (by kernel_rfl)⟩)) (RunR.puts 1 [(12, .pv (.bool (x2 && x3)))] (by cases x2 <;> kernel_rfl) (RunR.dyn (Step.name (f := eBool) (e := (x2 && x3)) (c := c4) (by kernel_rfl) hc4) (RunR.puts 3 [(16, (bif c4 then (.pv (.fn 118)) else (.tup []))), (15, (bif c4 then (.pv (.str x1.f_Name)) else (.tup []))), (14, (bif c4 then (.ptr (.loc 1 0) 1) else (.tup [])))] (by cases c4 <;> kernel_rfl) (RunR.cons (tab_cons (on := c4) (fun hg => strings_ContainsFunc120_ok (fun x r h => chart_isCustomer_1_ok h) (gdO_at hg hx5)) tab_nil) (Step.gdG c4 (by kernel_rfl) (by
    cases c4
    ·exact .inl ⟨by kernel_rfl, by kernel_rfl⟩
    ·exact .inr ⟨by kernel_rfl, by kernel_rfl, Step.call0 (g := 120) (caps := []) (v := .pv (.bool x5)) (by kernel_rfl) (by kernel_rfl) (by kernel_rfl) (tab_hit (by kernel_rfl)) (by kernel_rfl)⟩)) (RunR.puts 2 [(19, .pv (.bool (c4 && (!x5)))), (18, (bif c4 then (.pv (.bool (!x5))) else (.tup [])))] (by cases c4 <;> kernel_rfl) (RunR.dyn (Step.name (f := eBool) (e := (c4 && (!x5))) (c := c6) (by kernel_rfl) hc6) (RunR.puts 2 [(22, (bif c6 then (.pv (.int .i64 x1.f_Kind)) else (.tup []))), (21, (bif c6 then (.ptr (.loc 1 0) 2) else (.tup [])))] (by cases c6 <;> kernel_rfl) (RunR.cons (tab_cons (on := c6) (fun hg => chart_in_int_ok (gdO_at hg hx7)) tab_nil) (Step.gdG c6 (by kernel_rfl) (by
    cases c6
    ·exact .inl ⟨by kernel_rfl, by kernel_rfl⟩
    ·exact .inr ⟨by kernel_rfl, by kernel_rfl, Step.call0 (g := 119) (caps := []) (v := .pv (.bool x7)) (by kernel_rfl) (by kernel_rfl) (by kernel_rfl) (tab_hit (by kernel_rfl)) (by kernel_rfl)⟩)) (RunR.puts 1 [(24, .pv (.bool (c6 && x7)))] (by cases c6 <;> kernel_rfl) (RunR.all (by kernel_rfl)))))))))))))))) ?_
 refine W.keep rfl ?_
 cases h
 exact W.ret ((fin_ret (by kernel_rfl)))
def pchart_Right_1r0 : List GOp := [⟨(some 1), none, .box (.tmp 0)⟩, ⟨(some 2), none, .mov (.cst (.bool false))⟩]
def pchart_Right_1r1 : List GOp := [⟨(some 3), none, .load true 3 (.tmp 1)⟩, ⟨(some 4), none, .call 0 0 (.cst (.fn 78)) [(.tmp 3)] [] []⟩, ⟨(some 5), none, .un .not (.tmp 4)⟩, ⟨(some 2), none, .mov (.tmp 5)⟩]
def pchart_Right_1b : AC := (.seq (.ops pchart_Right_1r0) (.seq (.ops pchart_Right_1r1) (.keep [] [(2, false)] [] [.loc 1 0] [] .ret)))
def pchart_Right_1 : Fd := ⟨1, [.tmp 2], [], pchart_Right_1b⟩
theorem pchart_Right_1_ag : agreeF Tryz.prog Tryz.f77 pchart_Right_1 = true := by kernel_rfl
theorem chart_Right_1_ok {x1 : T_api_Customer} {r : Bool} (h : chart_Right_1 x1 = some r) : Contract Tryz.prog 77 [.pv (T_api_Customer.pv x1)] [] ⟨.pv (.bool r), [], []⟩ := by
 refine contract_fin hm Tryz.func77 pchart_Right_1_ag (by kernel_rfl) ?_
 unfold chart_Right_1 at h
 refine W.seqOps (RunR.all (by kernel_rfl)) ?_
 replace h := bindS h
 obtain ⟨x2, hx2, h⟩ := h
 refine W.seqOps (RunR.stat 1 (by kernel_rfl) (RunR.cons (tab_cons (on := true) (fun _ => chart_isCustomer_ok hx2) tab_nil) (Step.call0 (g := 78) (caps := []) (v := .pv (.bool x2)) (by kernel_rfl) (by kernel_rfl) (by kernel_rfl) (tab_hit (by kernel_rfl)) (by kernel_rfl)) (RunR.all (by kernel_rfl)))) ?_
 refine W.keep rfl ?_
 cases h
 exact W.ret ((fin_ret (by kernel_rfl)))
def pslices_IndexFunc_Customer_Customerr0 : List GOp := [⟨(some 4), none, .mov (.cst (.int .i64 0))⟩]
def pslices_IndexFunc_Customer_Customerr1 : List GOp := [⟨(some 6), none, .mov (.tmp 0)⟩, ⟨(some 7), none, .len false (.tmp 6)⟩, ⟨(some 8), none, .mov (.cst (.int .i64 0))⟩]
def pslices_IndexFunc_Customer_Customerr2 : List GOp := [⟨(some 9), none, .bin false .lss (.tmp 8) (.tmp 7)⟩]
def pslices_IndexFunc_Customer_Customerr3 : List GOp := [⟨(some 10), none, .mov (.tmp 8)⟩, ⟨(some 5), none, .mov (.tmp 10)⟩]
def pslices_IndexFunc_Customer_Customerr4 : List GOp := [⟨(some 11), none, .mov (.tmp 1)⟩, ⟨(some 12), none, .mov (.tmp 0)⟩, ⟨(some 13), none, .mov (.tmp 5)⟩, ⟨(some 14), none, .idx 3 (.tmp 12) (.tmp 13)⟩, ⟨(some 15), none, .load true 3 (.tmp 14)⟩, ⟨(some 16), none, .call 0 0 (.tmp 11) [(.tmp 15)] [] []⟩]
def pslices_IndexFunc_Customer_Customerr5 : List GOp := [⟨(some 17), none, .mov (.tmp 5)⟩, ⟨(some 4), none, .mov (.tmp 17)⟩]
def pslices_IndexFunc_Customer_Customerr6 : List GOp := [⟨(some 18), none, .bin false .add (.tmp 8) (.cst (.int .i64 1))⟩, ⟨(some 8), none, .mov (.tmp 18)⟩]
def pslices_IndexFunc_Customer_Customerl7 : AC := (.keep [] [(0, false), (1, false), (7, false), (8, false)] [] [] [] (.seq (.ops pslices_IndexFunc_Customer_Customerr2) (.seq (.cond (.tmp 9) .skip (.exit 0)) (.seq (.pass 1 (.seq (.ops pslices_IndexFunc_Customer_Customerr3) (.seq (.ops pslices_IndexFunc_Customer_Customerr4) (.cond (.tmp 16) (.seq (.ops pslices_IndexFunc_Customer_Customerr5) (.keep [] [(4, false)] [] [] [] .ret)) .skip)))) (.ops pslices_IndexFunc_Customer_Customerr6)))))
def pslices_IndexFunc_Customer_Customerr8 : List GOp := [⟨(some 4), none, .mov (.cst (.int .i64 (-1)))⟩]
def pslices_IndexFunc_Customer_Customerb : AC := (.seq (.ops pslices_IndexFunc_Customer_Customerr0) (.seq (.seq (.ops pslices_IndexFunc_Customer_Customerr1) (.block 0 (.loop [0, 1, 7, 8] [] pslices_IndexFunc_Customer_Customerl7))) (.seq (.keep [] [] [] [] [] (.ops pslices_IndexFunc_Customer_Customerr8)) (.keep [] [(4, false)] [] [] [] .ret))))
def pslices_IndexFunc_Customer_Customer : Fd := ⟨2, [.tmp 4], [], pslices_IndexFunc_Customer_Customerb⟩
theorem pslices_IndexFunc_Customer_Customer_ag : agreeF Tryz.prog Tryz.f117 pslices_IndexFunc_Customer_Customer = true := by kernel_rfl
theorem slices_IndexFunc_Customer_Customer_ok {s1 : List T_api_Customer} {r : Int} (h : slices_IndexFunc_Customer_Customer s1 = some r) : Contract Tryz.prog 117 [.pv (.slice (List.map T_api_Customer.pv s1)), .pv (.fn 77)] [] ⟨.pv (.int .i64 r), [], []⟩ := by
 refine contract_fin hm Tryz.func117 pslices_IndexFunc_Customer_Customer_ag (by kernel_rfl) ?_
 unfold slices_IndexFunc_Customer_Customer at h
 refine W.seqOps (RunR.all (by kernel_rfl)) ?_
 refine W.assoc ?_
 refine W.seqOps (RunR.stat 1 (by kernel_rfl) (RunR.dyn (Step.lenT (f := T_api_Customer.pv) (l := s1) (by kernel_rfl)) (RunR.all (by kernel_rfl)))) ?_
 replace h := bindS h
 obtain ⟨j2, hj2, h⟩ := h
 refine W.joinOut (j := j2) (o := r) (fun p σ => σ.tidy [] [] [] [] [] = ⟨[], []⟩) ?_ (fun p σj2 hp hsj2 => ?_) (fun p hp => ?_)
 ·refine W.blockLoopO (fun q σ => ((σ.forget [0, 1, 7, 8]).killAll []).tidy [] [(0, false), (1, false), (7, false), (8, false)] [] [] [] = ⟨[(0, .pv (.slice (List.map T_api_Customer.pv s1))), (1, .pv (.fn 77)), (7, .pv (.int .i64 (s1.length : Int))), (8, .pv (.int .i64 q))], []⟩) hj2 ?_ ?_
  ·show _ = _
   kernel_rfl
  ·intro x3 σj2 oj2 hJj2 h
   refine W.keep hJj2 ?_
   refine W.seqOps (RunR.all (by kernel_rfl)) ?_
   refine W.seqCond (t := decide (x3 < (s1.length : Int))) (by kernel_rfl) h (fun hc h' => ?_) (fun hc h' => ?_)
   ·replace h := h'
    refine W.seqSkip ?_
    refine W.seqPass ?_
    refine W.assoc ?_
    refine W.seqOps (RunR.all (by kernel_rfl)) ?_
    refine W.assoc ?_
    replace h := bindS h
    obtain ⟨x4, hx4, h⟩ := h
    replace h := bindS h
    obtain ⟨x5, hx5, h⟩ := h
    refine W.seqOps (RunR.stat 3 (by kernel_rfl) (RunR.dyn (Step.idxT (f := T_api_Customer.pv) (l := s1) (n := x3) (e := x4) (k := .i64) (by kernel_rfl) (by kernel_rfl) hx4 (by kernel_rfl)) (RunR.stat 1 (by kernel_rfl) (RunR.cons (tab_cons (on := true) (fun _ => chart_Right_1_ok hx5) tab_nil) (Step.call0 (g := 77) (caps := []) (v := .pv (.bool x5)) (by kernel_rfl) (by kernel_rfl) (by kernel_rfl) (tab_hit (by kernel_rfl)) (by kernel_rfl)) ((.nil _)))))) ?_
    refine W.seqCond (t := x5) (by kernel_rfl) h (fun hc h' => ?_) (fun hc h' => ?_)
    ·replace h := h'
     refine W.assoc ?_
     refine W.seqOps (RunR.all (by kernel_rfl)) ?_
     refine W.seqKeep rfl ?_
     cases h
     exact W.seqRet ((outw_out ret_ne (bout_o ret_ne ret_ne' (fun e => by subst e; exact (fin_ret (by kernel_rfl))))))
    ·replace h := h'
     refine W.seqSkip ?_
     refine W.ops (RunR.all (by kernel_rfl)) ?_
     cases h
     exact (outw_in (by (show _ = _); kernel_rfl))
   ·replace h := h'
    cases h
    exact W.seqExit ((outw_out exit_ne (bout_x (by (show _ = _); kernel_rfl))))
 ·subst hp
  obtain ⟨⟩ := p
  refine W.seqKeep hsj2 ?_
  refine W.seqOps (RunR.all (by kernel_rfl)) ?_
  refine W.keep rfl ?_
  cases h
  exact W.ret ((fin_ret (by kernel_rfl)))
 ·subst hp
  exact Option.some.inj h
def pslices_ContainsFunc_Customer_Customerr0 : List GOp := [⟨(some 4), none, .mov (.cst (.bool false))⟩]
def pslices_ContainsFunc_Customer_Customerr1 : List GOp := [⟨(some 5), none, .mov (.tmp 0)⟩, ⟨(some 6), none, .mov (.tmp 1)⟩, ⟨(some 7), none, .call 0 0 (.cst (.fn 117)) [(.tmp 5), (.tmp 6)] [] []⟩, ⟨(some 8), none, .bin false .geq (.tmp 7) (.cst (.int .i64 0))⟩, ⟨(some 4), none, .mov (.tmp 8)⟩]
def pslices_ContainsFunc_Customer_Customerb : AC := (.seq (.ops pslices_ContainsFunc_Customer_Customerr0) (.seq (.ops pslices_ContainsFunc_Customer_Customerr1) (.keep [] [(4, false)] [] [] [] .ret)))
def pslices_ContainsFunc_Customer_Customer : Fd := ⟨2, [.tmp 4], [], pslices_ContainsFunc_Customer_Customerb⟩
theorem pslices_ContainsFunc_Customer_Customer_ag : agreeF Tryz.prog Tryz.f76 pslices_ContainsFunc_Customer_Customer = true := by kernel_rfl
theorem slices_ContainsFunc_Customer_Customer_ok {s1 : List T_api_Customer} {r : Bool} (h : slices_ContainsFunc_Customer_Customer s1 = some r) : Contract Tryz.prog 76 [.pv (.slice (List.map T_api_Customer.pv s1)), .pv (.fn 77)] [] ⟨.pv (.bool r), [], []⟩ := by
 refine contract_fin hm Tryz.func76 pslices_ContainsFunc_Customer_Customer_ag (by kernel_rfl) ?_
 unfold slices_ContainsFunc_Customer_Customer at h
 refine W.seqOps (RunR.all (by kernel_rfl)) ?_
 replace h := bindS h
 obtain ⟨x2, hx2, h⟩ := h
 refine W.seqOps (RunR.stat 2 (by kernel_rfl) (RunR.cons (tab_cons (on := true) (fun _ => slices_IndexFunc_Customer_Customer_ok hx2) tab_nil) (Step.call0 (g := 117) (caps := []) (v := .pv (.int .i64 x2)) (by kernel_rfl) (by kernel_rfl) (by kernel_rfl) (tab_hit (by kernel_rfl)) (by kernel_rfl)) (RunR.all (by kernel_rfl)))) ?_
 refine W.keep rfl ?_
 cases h
 exact W.ret ((fin_ret (by kernel_rfl)))
def pcmp_isNaN_intr0 : List GOp := [⟨(some 2), none, .mov (.cst (.bool false))⟩]
def pcmp_isNaN_intr1 : List GOp := [⟨(some 3), none, .mov (.tmp 0)⟩, ⟨(some 4), none, .mov (.tmp 0)⟩, ⟨(some 5), none, .bin false .neq (.tmp 3) (.tmp 4)⟩, ⟨(some 2), none, .mov (.tmp 5)⟩]
def pcmp_isNaN_intb : AC := (.seq (.ops pcmp_isNaN_intr0) (.seq (.ops pcmp_isNaN_intr1) (.keep [] [(2, false)] [] [] [] .ret)))
def pcmp_isNaN_int : Fd := ⟨1, [.tmp 2], [], pcmp_isNaN_intb⟩
theorem pcmp_isNaN_int_ag : agreeF Tryz.prog Tryz.f134 pcmp_isNaN_int = true := by kernel_rfl
theorem cmp_isNaN_int_ok {x1 : Int} {r : Bool} (h : cmp_isNaN_int x1 = some r) : Contract Tryz.prog 134 [.pv (.int .i64 x1)] [] ⟨.pv (.bool r), [], []⟩ := by
 refine contract_fin hm Tryz.func134 pcmp_isNaN_int_ag (by kernel_rfl) ?_
 unfold cmp_isNaN_int at h
 refine W.seqOps (RunR.all (by kernel_rfl)) ?_
 refine W.seqOps (RunR.all (by kernel_rfl)) ?_
 refine W.keep rfl ?_
 cases h
 exact W.ret ((fin_ret (by kernel_rfl)))
def pcmp_Compare_intr0 : List GOp := [⟨(some 4), none, .mov (.cst (.int .i64 0))⟩]
def pcmp_Compare_intr1 : List GOp := [⟨(some 7), none, .mov (.tmp 0)⟩, ⟨(some 8), none, .call 0 0 (.cst (.fn 134)) [(.tmp 7)] [] []⟩, ⟨(some 5), none, .mov (.tmp 8)⟩]
def pcmp_Compare_intr2 : List GOp := [⟨(some 9), none, .mov (.tmp 1)⟩, ⟨(some 10), none, .call 0 0 (.cst (.fn 134)) [(.tmp 9)] [] []⟩, ⟨(some 6), none, .mov (.tmp 10)⟩]
def pcmp_Compare_intr3 : List GOp := [⟨(some 11), none, .mov (.tmp 5)⟩]
def pcmp_Compare_intr4 : List GOp := [⟨(some 12), none, .mov (.tmp 6)⟩]
def pcmp_Compare_intr5 : List GOp := [⟨(some 4), none, .mov (.cst (.int .i64 0))⟩]
def pcmp_Compare_intr6 : List GOp := [⟨(some 4), none, .mov (.cst (.int .i64 (-1)))⟩]
def pcmp_Compare_intr7 : List GOp := [⟨(some 13), none, .mov (.tmp 6)⟩]
def pcmp_Compare_intr8 : List GOp := [⟨(some 4), none, .mov (.cst (.int .i64 1))⟩]
def pcmp_Compare_intr9 : List GOp := [⟨(some 14), none, .mov (.tmp 0)⟩, ⟨(some 15), none, .mov (.tmp 1)⟩, ⟨(some 16), none, .bin false .lss (.tmp 14) (.tmp 15)⟩]
def pcmp_Compare_intr10 : List GOp := [⟨(some 4), none, .mov (.cst (.int .i64 (-1)))⟩]
def pcmp_Compare_intr11 : List GOp := [⟨(some 17), none, .mov (.tmp 0)⟩, ⟨(some 18), none, .mov (.tmp 1)⟩, ⟨(some 19), none, .bin false .gtr (.tmp 17) (.tmp 18)⟩]
def pcmp_Compare_intr12 : List GOp := [⟨(some 4), none, .mov (.cst (.int .i64 1))⟩]
def pcmp_Compare_intr13 : List GOp := [⟨(some 4), none, .mov (.cst (.int .i64 0))⟩]
def pcmp_Compare_intb : AC := (.seq (.ops pcmp_Compare_intr0) (.seq (.ops pcmp_Compare_intr1) (.seq (.ops pcmp_Compare_intr2) (.seq (.seq (.ops pcmp_Compare_intr3) (.cond (.tmp 11) (.seq (.seq (.ops pcmp_Compare_intr4) (.cond (.tmp 12) (.seq (.ops pcmp_Compare_intr5) (.keep [] [(4, false)] [] [] [] .ret)) .skip)) (.seq (.ops pcmp_Compare_intr6) (.keep [] [(4, false)] [] [] [] .ret))) .skip)) (.seq (.seq (.ops pcmp_Compare_intr7) (.cond (.tmp 13) (.seq (.ops pcmp_Compare_intr8) (.keep [] [(4, false)] [] [] [] .ret)) .skip)) (.seq (.seq (.ops pcmp_Compare_intr9) (.cond (.tmp 16) (.seq (.ops pcmp_Compare_intr10) (.keep [] [(4, false)] [] [] [] .ret)) .skip)) (.seq (.seq (.ops pcmp_Compare_intr11) (.cond (.tmp 19) (.seq (.ops pcmp_Compare_intr12) (.keep [] [(4, false)] [] [] [] .ret)) .skip)) (.seq (.ops pcmp_Compare_intr13) (.keep [] [(4, false)] [] [] [] .ret)))))))))
def pcmp_Compare_int : Fd := ⟨2, [.tmp 4], [], pcmp_Compare_intb⟩
theorem pcmp_Compare_int_ag : agreeF Tryz.prog Tryz.f104 pcmp_Compare_int = true := by kernel_rfl
theorem cmp_Compare_int_ok {x1 : Int} {y2 : Int} {r : Int} (h : cmp_Compare_int x1 y2 = some r) : Contract Tryz.prog 104 [.pv (.int .i64 x1), .pv (.int .i64 y2)] [] ⟨.pv (.int .i64 r), [], []⟩ := by
 refine contract_fin hm Tryz.func104 pcmp_Compare_int_ag (by kernel_rfl) ?_
 unfold cmp_Compare_int at h
 refine W.seqOps (RunR.all (by kernel_rfl)) ?_
 replace h := bindS h
 obtain ⟨x3, hx3, h⟩ := h
 refine W.seqOps (RunR.stat 1 (by kernel_rfl) (RunR.cons (tab_cons (on := true) (fun _ => cmp_isNaN_int_ok hx3) tab_nil) (Step.call0 (g := 134) (caps := []) (v := .pv (.bool x3)) (by kernel_rfl) (by kernel_rfl) (by kernel_rfl) (tab_hit (by kernel_rfl)) (by kernel_rfl)) (RunR.all (by kernel_rfl)))) ?_
 replace h := bindS h
 obtain ⟨x4, hx4, h⟩ := h
 refine W.seqOps (RunR.stat 1 (by kernel_rfl) (RunR.cons (tab_cons (on := true) (fun _ => cmp_isNaN_int_ok hx4) tab_nil) (Step.call0 (g := 134) (caps := []) (v := .pv (.bool x4)) (by kernel_rfl) (by kernel_rfl) (by kernel_rfl) (tab_hit (by kernel_rfl)) (by kernel_rfl)) (RunR.all (by kernel_rfl)))) ?_
 refine W.assoc ?_
 refine W.seqOps (RunR.all (by kernel_rfl)) ?_
 refine W.seqCond (t := x3) (by kernel_rfl) h (fun hc h' => ?_) (fun hc h' => ?_)
 ·replace h := h'
  refine W.assoc ?_
  refine W.assoc ?_
  refine W.seqOps (RunR.all (by kernel_rfl)) ?_
  refine W.seqCond (t := x4) (by kernel_rfl) h (fun hc h' => ?_) (fun hc h' => ?_)
  ·replace h := h'
   refine W.assoc ?_
   refine W.seqOps (RunR.all (by kernel_rfl)) ?_
   refine W.seqKeep rfl ?_
   cases h
   exact W.seqRet ((fin_ret (by kernel_rfl)))
  ·replace h := h'
   refine W.seqSkip ?_
   refine W.assoc ?_
   refine W.seqOps (RunR.all (by kernel_rfl)) ?_
   refine W.seqKeep rfl ?_
   cases h
   exact W.seqRet ((fin_ret (by kernel_rfl)))
 ·replace h := h'
  refine W.seqSkip ?_
  refine W.assoc ?_
  refine W.seqOps (RunR.all (by kernel_rfl)) ?_
  refine W.seqCond (t := x4) (by kernel_rfl) h (fun hc h' => ?_) (fun hc h' => ?_)
  ·replace h := h'
   refine W.assoc ?_
   refine W.seqOps (RunR.all (by kernel_rfl)) ?_
   refine W.seqKeep rfl ?_
   cases h
   exact W.seqRet ((fin_ret (by kernel_rfl)))
  ·replace h := h'
   refine W.seqSkip ?_
   refine W.assoc ?_
   refine W.seqOps (RunR.all (by kernel_rfl)) ?_
   refine W.seqCond (t := decide (x1 < y2)) (by kernel_rfl) h (fun hc h' => ?_) (fun hc h' => ?_)
   ·replace h := h'
    refine W.assoc ?_
    refine W.seqOps (RunR.all (by kernel_rfl)) ?_
    refine W.seqKeep rfl ?_
    cases h
    exact W.seqRet ((fin_ret (by kernel_rfl)))
   ·replace h := h'
    refine W.seqSkip ?_
    refine W.assoc ?_
    refine W.seqOps (RunR.all (by kernel_rfl)) ?_
    refine W.seqCond (t := decide (x1 > y2)) (by kernel_rfl) h (fun hc h' => ?_) (fun hc h' => ?_)
    ·replace h := h'
     refine W.assoc ?_
     refine W.seqOps (RunR.all (by kernel_rfl)) ?_
     refine W.seqKeep rfl ?_
     cases h
     exact W.seqRet ((fin_ret (by kernel_rfl)))
    ·replace h := h'
     refine W.seqSkip ?_
     refine W.seqOps (RunR.all (by kernel_rfl)) ?_
     refine W.keep rfl ?_
     cases h
     exact W.ret ((fin_ret (by kernel_rfl)))
def pchart_place_Customer_int_1r0 : List GOp := [⟨(some 3), none, .box (.tmp 0)⟩, ⟨(some 5), none, .mov (.cst (.int .i64 0))⟩]
def pchart_place_Customer_int_1r1 : List GOp := [⟨(some 6), none, .load false 1 (.tmp 2)⟩, ⟨(some 7), none, .load true 3 (.tmp 3)⟩, ⟨(some 8), none, .call 0 0 (.tmp 6) [(.tmp 7)] [] []⟩, ⟨(some 9), none, .mov (.tmp 1)⟩, ⟨(some 10), none, .call 0 0 (.cst (.fn 104)) [(.tmp 8), (.tmp 9)] [] []⟩, ⟨(some 5), none, .mov (.tmp 10)⟩]
def pchart_place_Customer_int_1b : AC := (.seq (.ops pchart_place_Customer_int_1r0) (.seq (.ops pchart_place_Customer_int_1r1) (.keep [] [(5, false)] [(.ext 0, false)] [.loc 3 0] [] .ret)))
def pchart_place_Customer_int_1 : Fd := ⟨3, [.tmp 5], [], pchart_place_Customer_int_1b⟩
theorem pchart_place_Customer_int_1_ag : agreeF Tryz.prog Tryz.f123 pchart_place_Customer_int_1 = true := by kernel_rfl
theorem chart_place_Customer_int_1_ok {x1 : T_api_Customer} {n2 : Int} {r : Int} (h : chart_place_Customer_int_1 x1 n2 = some r) : Contract Tryz.prog 123 [.pv (T_api_Customer.pv x1), .pv (.int .i64 n2), .ptr (.ext 0) 0] [.box [.pv (.fn 73)]] ⟨.pv (.int .i64 r), [], [(some (.box [.pv (.fn 73)]))]⟩ := by
 refine contract_fin hm Tryz.func123 pchart_place_Customer_int_1_ag (by kernel_rfl) ?_
 unfold chart_place_Customer_int_1 at h
 refine W.seqOps (RunR.all (by kernel_rfl)) ?_
 replace h := bindS h
 obtain ⟨x3, hx3, h⟩ := h
 replace h := bindS h
 obtain ⟨x4, hx4, h⟩ := h
 refine W.seqOps (RunR.stat 2 (by kernel_rfl) (RunR.cons (tab_cons (on := true) (fun _ => chart_idOf_ok hx3) tab_nil) (Step.call0 (g := 73) (caps := []) (v := .pv (.int .i64 x3)) (by kernel_rfl) (by kernel_rfl) (by kernel_rfl) (tab_hit (by kernel_rfl)) (by kernel_rfl)) (RunR.stat 1 (by kernel_rfl) (RunR.cons (tab_cons (on := true) (fun _ => cmp_Compare_int_ok hx4) tab_nil) (Step.call0 (g := 104) (caps := []) (v := .pv (.int .i64 x4)) (by kernel_rfl) (by kernel_rfl) (by kernel_rfl) (tab_hit (by kernel_rfl)) (by kernel_rfl)) (RunR.all (by kernel_rfl)))))) ?_
 refine W.keep rfl ?_
 cases h
 exact W.ret ((fin_ret (by kernel_rfl)))
def pslices_BinarySearchFunc_Customer_Customer_intr0 : List GOp := [⟨(some 6), none, .mov (.cst (.int .i64 0))⟩, ⟨(some 7), none, .mov (.cst (.bool false))⟩]
def pslices_BinarySearchFunc_Customer_Customer_intr1 : List GOp := [⟨(some 12), none, .mov (.tmp 0)⟩, ⟨(some 13), none, .len false (.tmp 12)⟩, ⟨(some 8), none, .mov (.tmp 13)⟩]
def pslices_BinarySearchFunc_Customer_Customer_intr2 : List GOp := [⟨(some 14), none, .mov (.tmp 8)⟩, ⟨(some 9), none, .mov (.cst (.int .i64 0))⟩, ⟨(some 10), none, .mov (.tmp 14)⟩]
def pslices_BinarySearchFunc_Customer_Customer_intr3 : List GOp := [⟨(some 15), none, .mov (.tmp 9)⟩, ⟨(some 16), none, .mov (.tmp 10)⟩, ⟨(some 17), none, .bin false .lss (.tmp 15) (.tmp 16)⟩]
def pslices_BinarySearchFunc_Customer_Customer_intr4 : List GOp := [⟨(some 18), none, .mov (.tmp 9)⟩, ⟨(some 19), none, .mov (.tmp 10)⟩, ⟨(some 20), none, .bin false .add (.tmp 18) (.tmp 19)⟩, ⟨(some 21), none, .conv .u64 (.tmp 20)⟩, ⟨(some 22), none, .bin false .shr (.tmp 21) (.cst (.int .u64 1))⟩, ⟨(some 23), none, .conv .i64 (.tmp 22)⟩, ⟨(some 11), none, .mov (.tmp 23)⟩]
def pslices_BinarySearchFunc_Customer_Customer_intr5 : List GOp := [⟨(some 24), none, .mov (.tmp 2)⟩, ⟨(some 25), none, .mov (.tmp 0)⟩, ⟨(some 26), none, .mov (.tmp 11)⟩, ⟨(some 27), none, .idx 3 (.tmp 25) (.tmp 26)⟩, ⟨(some 28), none, .load true 3 (.tmp 27)⟩, ⟨(some 29), none, .mov (.tmp 1)⟩, ⟨(some 30), none, .call 0 2 (.tmp 24) [(.tmp 28), (.tmp 29)] [] [.ext 0]⟩, ⟨(some 31), none, .bin false .lss (.tmp 30) (.cst (.int .i64 0))⟩]
def pslices_BinarySearchFunc_Customer_Customer_intr6 : List GOp := [⟨(some 32), none, .mov (.tmp 11)⟩, ⟨(some 33), none, .bin false .add (.tmp 32) (.cst (.int .i64 1))⟩, ⟨(some 9), none, .mov (.tmp 33)⟩]
def pslices_BinarySearchFunc_Customer_Customer_intr7 : List GOp := [⟨(some 34), none, .mov (.tmp 11)⟩, ⟨(some 10), none, .mov (.tmp 34)⟩]
def pslices_BinarySearchFunc_Customer_Customer_intl8 : AC := (.keep [] [(0, false), (1, false), (2, false), (8, false), (9, false), (10, false)] [(.ext 0, false)] [] [] (.seq (.seq (.ops pslices_BinarySearchFunc_Customer_Customer_intr3) (.cond (.tmp 17) .skip (.exit 0))) (.pass 1 (.seq (.ops pslices_BinarySearchFunc_Customer_Customer_intr4) (.seq (.ops pslices_BinarySearchFunc_Customer_Customer_intr5) (.cond (.tmp 31) (.ops pslices_BinarySearchFunc_Customer_Customer_intr6) (.ops pslices_BinarySearchFunc_Customer_Customer_intr7)))))))
def pslices_BinarySearchFunc_Customer_Customer_intr9 : List GOp := [⟨(some 35), none, .mov (.tmp 9)⟩, ⟨(some 36), none, .mov (.tmp 9)⟩, ⟨(some 37), none, .mov (.tmp 8)⟩, ⟨(some 38), none, .bin false .lss (.tmp 36) (.tmp 37)⟩, ⟨(some 39), none, .mov (.tmp 38)⟩, ⟨(some 40), (some (39, true)), .mov (.tmp 2)⟩, ⟨(some 41), (some (39, true)), .mov (.tmp 0)⟩, ⟨(some 42), (some (39, true)), .mov (.tmp 9)⟩, ⟨(some 43), (some (39, true)), .idx 3 (.tmp 41) (.tmp 42)⟩, ⟨(some 44), (some (39, true)), .load true 3 (.tmp 43)⟩, ⟨(some 45), (some (39, true)), .mov (.tmp 1)⟩, ⟨(some 46), (some (39, true)), .call 0 2 (.tmp 40) [(.tmp 44), (.tmp 45)] [] [.ext 0]⟩, ⟨(some 47), (some (39, true)), .bin false .eql (.tmp 46) (.cst (.int .i64 0))⟩, ⟨(some 48), none, .pick (.tmp 39) (.tmp 47) (.cst (.bool false))⟩, ⟨(some 6), none, .mov (.tmp 35)⟩, ⟨(some 7), none, .mov (.tmp 48)⟩]
def pslices_BinarySearchFunc_Customer_Customer_intb : AC := (.seq (.ops pslices_BinarySearchFunc_Customer_Customer_intr0) (.seq (.ops pslices_BinarySearchFunc_Customer_Customer_intr1) (.seq (.ops pslices_BinarySearchFunc_Customer_Customer_intr2) (.seq (.block 0 (.loop [0, 1, 2, 8, 9, 10] [] pslices_BinarySearchFunc_Customer_Customer_intl8)) (.seq (.keep [] [(0, false), (1, false), (2, false), (8, false), (9, false)] [(.ext 0, false)] [] [] (.ops pslices_BinarySearchFunc_Customer_Customer_intr9)) (.keep [] [(6, false), (7, false)] [(.ext 0, false)] [] [] .ret))))))
def pslices_BinarySearchFunc_Customer_Customer_int : Fd := ⟨3, [.tmp 6, .tmp 7], [], pslices_BinarySearchFunc_Customer_Customer_intb⟩
theorem pslices_BinarySearchFunc_Customer_Customer_int_ag : agreeF Tryz.prog Tryz.f122 pslices_BinarySearchFunc_Customer_Customer_int = true := by kernel_rfl
theorem slices_BinarySearchFunc_Customer_Customer_int_ok {x1 : List T_api_Customer} {target2 : Int} {r : Int × Bool} (h : slices_BinarySearchFunc_Customer_Customer_int x1 target2 = some r) : Contract Tryz.prog 122 [.pv (.slice (List.map T_api_Customer.pv x1)), .pv (.int .i64 target2), .fn 123 [.ptr (.ext 0) 0]] [.box [.pv (.fn 73)]] ⟨.tup [.pv (.int .i64 r.1), .pv (.bool r.2)], [], [(some (.box [.pv (.fn 73)]))]⟩ := by
 refine contract_fin hm Tryz.func122 pslices_BinarySearchFunc_Customer_Customer_int_ag (by kernel_rfl) ?_
 unfold slices_BinarySearchFunc_Customer_Customer_int at h
 refine W.seqOps (RunR.all (by kernel_rfl)) ?_
 refine W.seqOps (RunR.stat 1 (by kernel_rfl) (RunR.dyn (Step.lenT (f := T_api_Customer.pv) (l := x1) (by kernel_rfl)) (RunR.all (by kernel_rfl)))) ?_
 refine W.seqOps (RunR.all (by kernel_rfl)) ?_
 replace h := bindS h
 obtain ⟨j3, hj3, h⟩ := h
 refine W.join (j := j3) (fun p σ => σ.tidy [] [(0, false), (1, false), (2, false), (8, false), (9, false)] [(.ext 0, false)] [] [] = ⟨[(0, .pv (.slice (List.map T_api_Customer.pv x1))), (1, .pv (.int .i64 target2)), (2, .fn 123 [.ptr (.ext 0) 0]), (8, .pv (.int .i64 (x1.length : Int))), (9, .pv (.int .i64 p))], [(.ext 0, .box [.pv (.fn 73)])]⟩) ?_ (fun σj3 hsj3 => ?_)
 ·refine W.blockLoop (fun q σ => ((σ.forget [0, 1, 2, 8, 9, 10]).killAll []).tidy [] [(0, false), (1, false), (2, false), (8, false), (9, false), (10, false)] [(.ext 0, false)] [] [] = ⟨[(0, .pv (.slice (List.map T_api_Customer.pv x1))), (1, .pv (.int .i64 target2)), (2, .fn 123 [.ptr (.ext 0) 0]), (8, .pv (.int .i64 (x1.length : Int))), (9, .pv (.int .i64 q.1)), (10, .pv (.int .i64 q.2))], [(.ext 0, .box [.pv (.fn 73)])]⟩) hj3 ?_ ?_
  ·show _ = _
   kernel_rfl
  ·intro q σj3 oj3 hJj3 h
   obtain ⟨i4, j5⟩ := q
   refine W.keep hJj3 ?_
   refine W.assoc ?_
   refine W.seqOps (RunR.all (by kernel_rfl)) ?_
   refine W.seqCond (t := decide (i4 < j5)) (by kernel_rfl) h (fun hc h' => ?_) (fun hc h' => ?_)
   ·replace h := h'
    refine W.seqSkip ?_
    refine W.pass ?_
    refine W.seqOps (RunR.all (by kernel_rfl)) ?_
    replace h := bindS h
    obtain ⟨x6, hx6, h⟩ := h
    replace h := bindS h
    obtain ⟨x7, hx7, h⟩ := h
    refine W.seqOps (RunR.stat 3 (by kernel_rfl) (RunR.dyn (Step.idxT (f := T_api_Customer.pv) (l := x1) (n := IntKind.wrap .i64 (Int.fdiv (IntKind.wrap .u64 (IntKind.wrap .i64 (i4 + j5))) 2)) (e := x6) (k := .i64) (by kernel_rfl) (by kernel_rfl) hx6 (by kernel_rfl)) (RunR.stat 2 (by kernel_rfl) (RunR.cons (tab_cons (on := true) (fun _ => chart_place_Customer_int_1_ok hx7) tab_nil) (Step.callG (g := 123) (caps := [.ptr (.ext 0) 0]) (v := .pv (.int .i64 x7)) (ins := []) rfl (by kernel_rfl) (by kernel_rfl) (by kernel_rfl) (tab_hit (by kernel_rfl)) (by kernel_rfl) (by kernel_rfl)) (RunR.all (by kernel_rfl)))))) ?_
    refine W.condI (t := decide (x7 < 0)) (by kernel_rfl) h (fun hc h' => ?_) (fun hc h' => ?_)
    ·replace h := h'
     refine W.ops (RunR.all (by kernel_rfl)) ?_
     cases h
     exact (outw_in (by (show _ = _); kernel_rfl))
    ·replace h := h'
     refine W.ops (RunR.all (by kernel_rfl)) ?_
     cases h
     exact (outw_in (by (show _ = _); kernel_rfl))
   ·replace h := h'
    cases h
    exact W.seqExit ((outw_out exit_ne (bnorm_x (by (show _ = _); kernel_rfl))))
 ·refine W.seqKeep hsj3 ?_
  replace h := bindS h
  obtain ⟨c9, hc9, h⟩ := h
  replace h := bindS h
  obtain ⟨x10, hx10, h⟩ := h
  replace h := bindS h
  obtain ⟨x11, hx11, h⟩ := h
  refine W.seqOps (RunR.stat 4 (by kernel_rfl) (RunR.dyn (Step.name (f := eBool) (e := decide (j3 < (x1.length : Int))) (c := c9) (by kernel_rfl) hc9) (RunR.puts 3 [(42, (bif c9 then (.pv (.int .i64 j3)) else (.tup []))), (41, (bif c9 then (.pv (.slice (List.map T_api_Customer.pv x1))) else (.tup []))), (40, (bif c9 then (.fn 123 [.ptr (.ext 0) 0]) else (.tup [])))] (by cases c9 <;> kernel_rfl) (RunR.dyn (Step.gdG c9 (by kernel_rfl) (by
     cases c9
     ·exact .inl ⟨by kernel_rfl, by kernel_rfl⟩
     ·exact .inr ⟨by kernel_rfl, by kernel_rfl, Step.idxT (f := T_api_Customer.pv) (l := x1) (n := j3) (e := x10) (k := .i64) (by kernel_rfl) (by kernel_rfl) hx10 (by kernel_rfl)⟩)) (RunR.puts 2 [(45, (bif c9 then (.pv (.int .i64 target2)) else (.tup []))), (44, (bif c9 then (.pv (T_api_Customer.pv x10)) else (.tup [])))] (by cases c9 <;> kernel_rfl) (RunR.cons (tab_cons (on := c9) (fun hg => chart_place_Customer_int_1_ok (gdO_at hg hx11)) tab_nil) (Step.gdB c9 (by kernel_rfl) (by
     cases c9
     ·exact .inl ⟨by kernel_rfl, by kernel_rfl⟩
     ·exact .inr ⟨by kernel_rfl, by kernel_rfl, Step.callBs (g := 123) (caps := [.ptr (.ext 0) 0]) (v := .pv (.int .i64 x11)) rfl (by kernel_rfl) (by kernel_rfl) (by kernel_rfl) (tab_hit (by kernel_rfl)) (by kernel_rfl) (by kernel_rfl)⟩)) (RunR.puts 2 [(48, .pv (.bool (c9 && (x11 == 0)))), (47, (bif c9 then (.pv (.bool (x11 == 0))) else (.tup [])))] (by cases c9 <;> kernel_rfl) (RunR.all (by kernel_rfl))))))))) ?_
  refine W.keep rfl ?_
  cases h
  exact W.ret ((fin_ret (by kernel_rfl)))
def pchart_place_Customer_intr0 : List GOp := [⟨(some 5), none, .box (.tmp 2)⟩, ⟨(some 6), none, .mov (.cst (.int .i64 0))⟩, ⟨(some 7), none, .mov (.cst (.bool false))⟩]
def pchart_place_Customer_intr1 : List GOp := [⟨(some 8), none, .mov (.tmp 0)⟩, ⟨(some 9), none, .mov (.tmp 1)⟩, ⟨(some 10), none, .mkfn 123 [(.tmp 5)]⟩, ⟨(some 11), none, .call 0 2 (.cst (.fn 122)) [(.tmp 8), (.tmp 9), (.tmp 10)] [] [.loc 5 0]⟩, ⟨(some 12), none, .ext 0 (.tmp 11)⟩, ⟨(some 13), none, .ext 1 (.tmp 11)⟩, ⟨(some 6), none, .mov (.tmp 12)⟩, ⟨(some 7), none, .mov (.tmp 13)⟩]
def pchart_place_Customer_intb : AC := (.seq (.ops pchart_place_Customer_intr0) (.seq (.ops pchart_place_Customer_intr1) (.keep [] [(6, false), (7, false)] [] [.loc 5 0] [] .ret)))
def pchart_place_Customer_int : Fd := ⟨3, [.tmp 6, .tmp 7], [], pchart_place_Customer_intb⟩
theorem pchart_place_Customer_int_ag : agreeF Tryz.prog Tryz.f81 pchart_place_Customer_int = true := by kernel_rfl
theorem chart_place_Customer_int_ok {l1 : List T_api_Customer} {n2 : Int} {r : Int × Bool} (h : chart_place_Customer_int l1 n2 = some r) : Contract Tryz.prog 81 [.pv (.slice (List.map T_api_Customer.pv l1)), .pv (.int .i64 n2), .pv (.fn 73)] [] ⟨.tup [.pv (.int .i64 r.1), .pv (.bool r.2)], [], []⟩ := by
 refine contract_fin hm Tryz.func81 pchart_place_Customer_int_ag (by kernel_rfl) ?_
 unfold chart_place_Customer_int at h
 refine W.seqOps (RunR.all (by kernel_rfl)) ?_
 replace h := bindS h
 obtain ⟨x3, hx3, h⟩ := h
 refine W.seqOps (RunR.stat 3 (by kernel_rfl) (RunR.cons (tab_cons (on := true) (fun _ => slices_BinarySearchFunc_Customer_Customer_int_ok hx3) tab_nil) (Step.callG (g := 122) (caps := []) (v := .tup [.pv (.int .i64 x3.1), .pv (.bool x3.2)]) (ins := []) rfl (by kernel_rfl) (by kernel_rfl) (by kernel_rfl) (tab_hit (by kernel_rfl)) (by kernel_rfl) (by kernel_rfl)) (RunR.all (by kernel_rfl)))) ?_
 refine W.keep rfl ?_
 cases h
 exact W.ret ((fin_ret (by kernel_rfl)))
def pchart_in_Accountr0 : List GOp := [⟨(some 6), none, .mov (.cst (.bool false))⟩]
def pchart_in_Accountr1 : List GOp := [⟨(some 7), none, .mov (.tmp 0)⟩, ⟨(some 8), none, .mov (.tmp 1)⟩, ⟨(some 9), none, .bin false .geq (.tmp 7) (.tmp 8)⟩, ⟨(some 10), none, .mov (.tmp 9)⟩, ⟨(some 11), (some (10, true)), .mov (.tmp 0)⟩, ⟨(some 12), (some (10, true)), .mov (.tmp 2)⟩, ⟨(some 13), (some (10, true)), .bin false .leq (.tmp 11) (.tmp 12)⟩, ⟨(some 14), none, .pick (.tmp 10) (.tmp 13) (.cst (.bool false))⟩, ⟨(some 6), none, .mov (.tmp 14)⟩]
def pchart_in_Accountb : AC := (.seq (.ops pchart_in_Accountr0) (.seq (.ops pchart_in_Accountr1) (.keep [] [(6, false)] [] [] [] .ret)))
def pchart_in_Account : Fd := ⟨3, [.tmp 6], [], pchart_in_Accountb⟩
theorem pchart_in_Account_ag : agreeF Tryz.prog Tryz.f124 pchart_in_Account = true := by kernel_rfl
theorem chart_in_Account_ok {n1 : Int} {low2 : Int} {high3 : Int} {r : Bool} (h : chart_in_Account n1 low2 high3 = some r) : Contract Tryz.prog 124 [.pv (.int .i64 n1), .pv (.int .i64 low2), .pv (.int .i64 high3)] [] ⟨.pv (.bool r), [], []⟩ := by
 refine contract_fin hm Tryz.func124 pchart_in_Account_ag (by kernel_rfl) ?_
 unfold chart_in_Account at h
 refine W.seqOps (RunR.all (by kernel_rfl)) ?_
 replace h := bindS h
 obtain ⟨c4, hc4, h⟩ := h
 refine W.seqOps (RunR.stat 3 (by kernel_rfl) (RunR.dyn (Step.name (f := eBool) (e := decide (n1 ≥ low2)) (c := c4) (by kernel_rfl) hc4) (RunR.puts 4 [(14, .pv (.bool (c4 && (decide (n1 ≤ high3))))), (13, (bif c4 then (.pv (.bool (decide (n1 ≤ high3)))) else (.tup []))), (12, (bif c4 then (.pv (.int .i64 high3)) else (.tup []))), (11, (bif c4 then (.pv (.int .i64 n1)) else (.tup [])))] (by cases c4 <;> kernel_rfl) (RunR.all (by kernel_rfl))))) ?_
 refine W.keep rfl ?_
 cases h
 exact W.ret ((fin_ret (by kernel_rfl)))
def pchart_in_Currencyr0 : List GOp := [⟨(some 6), none, .mov (.cst (.bool false))⟩]
def pchart_in_Currencyr1 : List GOp := [⟨(some 7), none, .mov (.tmp 0)⟩, ⟨(some 8), none, .mov (.tmp 1)⟩, ⟨(some 9), none, .bin false .geq (.tmp 7) (.tmp 8)⟩, ⟨(some 10), none, .mov (.tmp 9)⟩, ⟨(some 11), (some (10, true)), .mov (.tmp 0)⟩, ⟨(some 12), (some (10, true)), .mov (.tmp 2)⟩, ⟨(some 13), (some (10, true)), .bin false .leq (.tmp 11) (.tmp 12)⟩, ⟨(some 14), none, .pick (.tmp 10) (.tmp 13) (.cst (.bool false))⟩, ⟨(some 6), none, .mov (.tmp 14)⟩]
def pchart_in_Currencyb : AC := (.seq (.ops pchart_in_Currencyr0) (.seq (.ops pchart_in_Currencyr1) (.keep [] [(6, false)] [] [] [] .ret)))
def pchart_in_Currency : Fd := ⟨3, [.tmp 6], [], pchart_in_Currencyb⟩
theorem pchart_in_Currency_ag : agreeF Tryz.prog Tryz.f125 pchart_in_Currency = true := by kernel_rfl
theorem chart_in_Currency_ok {n1 : Int} {low2 : Int} {high3 : Int} {r : Bool} (h : chart_in_Currency n1 low2 high3 = some r) : Contract Tryz.prog 125 [.pv (.int .i64 n1), .pv (.int .i64 low2), .pv (.int .i64 high3)] [] ⟨.pv (.bool r), [], []⟩ := by
 refine contract_fin hm Tryz.func125 pchart_in_Currency_ag (by kernel_rfl) ?_
 unfold chart_in_Currency at h
 refine W.seqOps (RunR.all (by kernel_rfl)) ?_
 replace h := bindS h
 obtain ⟨c4, hc4, h⟩ := h
 refine W.seqOps (RunR.stat 3 (by kernel_rfl) (RunR.dyn (Step.name (f := eBool) (e := decide (n1 ≥ low2)) (c := c4) (by kernel_rfl) hc4) (RunR.puts 4 [(14, .pv (.bool (c4 && (decide (n1 ≤ high3))))), (13, (bif c4 then (.pv (.bool (decide (n1 ≤ high3)))) else (.tup []))), (12, (bif c4 then (.pv (.int .i64 high3)) else (.tup []))), (11, (bif c4 then (.pv (.int .i64 n1)) else (.tup [])))] (by cases c4 <;> kernel_rfl) (RunR.all (by kernel_rfl))))) ?_
 refine W.keep rfl ?_
 cases h
 exact W.ret ((fin_ret (by kernel_rfl)))
def pdate_Rightr0 : List GOp := [⟨(some 2), none, .mov (.cst (.bool false))⟩]
def pdate_Rightr1 : List GOp := [⟨(some 3), none, .mov (.tmp 0)⟩, ⟨(some 4), none, .bin false .geq (.tmp 3) (.cst (.int .i32 (-50000)))⟩, ⟨(some 5), none, .mov (.tmp 4)⟩, ⟨(some 6), (some (5, true)), .mov (.tmp 0)⟩, ⟨(some 7), (some (5, true)), .bin false .leq (.tmp 6) (.cst (.int .i32 50000))⟩, ⟨(some 8), none, .pick (.tmp 5) (.tmp 7) (.cst (.bool false))⟩, ⟨(some 2), none, .mov (.tmp 8)⟩]
def pdate_Rightb : AC := (.seq (.ops pdate_Rightr0) (.seq (.ops pdate_Rightr1) (.keep [] [(2, false)] [] [] [] .ret)))
def pdate_Right : Fd := ⟨1, [.tmp 2], [], pdate_Rightb⟩
theorem pdate_Right_ag : agreeF Tryz.prog Tryz.f107 pdate_Right = true := by kernel_rfl
theorem date_Right_ok {d1 : Int} {r : Bool} (h : date_Right d1 = some r) : Contract Tryz.prog 107 [.pv (.int .i32 d1)] [] ⟨.pv (.bool r), [], []⟩ := by
 refine contract_fin hm Tryz.func107 pdate_Right_ag (by kernel_rfl) ?_
 unfold date_Right at h
 refine W.seqOps (RunR.all (by kernel_rfl)) ?_
 replace h := bindS h
 obtain ⟨c2, hc2, h⟩ := h
 refine W.seqOps (RunR.stat 2 (by kernel_rfl) (RunR.dyn (Step.name (f := eBool) (e := decide (d1 ≥ (-50000))) (c := c2) (by kernel_rfl) hc2) (RunR.puts 3 [(8, .pv (.bool (c2 && (decide (d1 ≤ 50000))))), (7, (bif c2 then (.pv (.bool (decide (d1 ≤ 50000)))) else (.tup []))), (6, (bif c2 then (.pv (.int .i32 d1)) else (.tup [])))] (by cases c2 <;> kernel_rfl) (RunR.all (by kernel_rfl))))) ?_
 refine W.keep rfl ?_
 cases h
 exact W.ret ((fin_ret (by kernel_rfl)))
def pchart_isRecordr0 : List GOp := [⟨(some 1), none, .box (.tmp 0)⟩, ⟨(some 2), none, .mov (.cst (.bool false))⟩]
def pchart_isRecordr1 : List GOp := [⟨(some 3), none, .fld 0 (.tmp 1)⟩, ⟨(some 4), none, .load false 1 (.tmp 3)⟩, ⟨(some 5), none, .call 0 0 (.cst (.fn 124)) [(.tmp 4), (.cst (.int .i64 1)), (.cst (.int .i64 999))] [] []⟩, ⟨(some 6), none, .un .not (.tmp 5)⟩, ⟨(some 7), none, .mov (.tmp 6)⟩, ⟨(some 8), (some (7, false)), .fld 1 (.tmp 1)⟩, ⟨(some 9), (some (7, false)), .load false 1 (.tmp 8)⟩, ⟨(some 10), (some (7, false)), .call 0 0 (.cst (.fn 119)) [(.tmp 9), (.cst (.int .i64 0)), (.cst (.int .i64 3))] [] []⟩, ⟨(some 11), (some (7, false)), .un .not (.tmp 10)⟩, ⟨(some 12), none, .pick (.tmp 7) (.cst (.bool true)) (.tmp 11)⟩, ⟨(some 13), none, .mov (.tmp 12)⟩, ⟨(some 14), (some (13, false)), .fld 2 (.tmp 1)⟩, ⟨(some 15), (some (13, false)), .load false 1 (.tmp 14)⟩, ⟨(some 16), (some (13, false)), .call 0 0 (.cst (.fn 125)) [(.tmp 15), (.cst (.int .i64 0)), (.cst (.int .i64 3))] [] []⟩, ⟨(some 17), (some (13, false)), .un .not (.tmp 16)⟩, ⟨(some 18), none, .pick (.tmp 13) (.cst (.bool true)) (.tmp 17)⟩, ⟨(some 19), none, .mov (.tmp 18)⟩, ⟨(some 20), (some (19, false)), .fld 3 (.tmp 1)⟩, ⟨(some 21), (some (19, false)), .load false 1 (.tmp 20)⟩, ⟨(some 22), (some (19, false)), .call 0 0 (.cst (.fn 119)) [(.tmp 21), (.cst (.int .i64 0)), (.cst (.int .i64 999))] [] []⟩, ⟨(some 23), (some (19, false)), .un .not (.tmp 22)⟩, ⟨(some 24), none, .pick (.tmp 19) (.cst (.bool true)) (.tmp 23)⟩]
def pchart_isRecordr2 : List GOp := [⟨(some 2), none, .mov (.cst (.bool false))⟩]
def pchart_isRecordr3 : List GOp := [⟨(some 25), none, .fld 1 (.tmp 1)⟩, ⟨(some 26), none, .load false 1 (.tmp 25)⟩, ⟨(some 27), none, .bin false .geq (.tmp 26) (.cst (.int .i64 2))⟩, ⟨(some 28), none, .mov (.tmp 27)⟩, ⟨(some 29), (some (28, true)), .fld 3 (.tmp 1)⟩, ⟨(some 30), (some (28, true)), .load false 1 (.tmp 29)⟩, ⟨(some 31), (some (28, true)), .bin false .neq (.tmp 30) (.cst (.int .i64 0))⟩, ⟨(some 32), (some (28, true)), .mov (.tmp 31)⟩, ⟨(some 33), (some (32, false)), .fld 4 (.tmp 1)⟩, ⟨(some 34), (some (32, false)), .load false 1 (.tmp 33)⟩, ⟨(some 35), (some (32, false)), .bin false .neq (.tmp 34) (.cst (.int .i64 0))⟩, ⟨(some 36), (some (28, true)), .pick (.tmp 32) (.cst (.bool true)) (.tmp 35)⟩, ⟨(some 37), none, .pick (.tmp 28) (.tmp 36) (.cst (.bool false))⟩]
def pchart_isRecordr4 : List GOp := [⟨(some 2), none, .mov (.cst (.bool false))⟩]
def pchart_isRecordr5 : List GOp := [⟨(some 38), none, .fld 4 (.tmp 1)⟩, ⟨(some 39), none, .load false 1 (.tmp 38)⟩, ⟨(some 40), none, .call 0 0 (.cst (.fn 119)) [(.tmp 39), (.cst (.int .i64 0)), (.cst (.int .i64 20))] [] []⟩, ⟨(some 41), none, .mov (.tmp 40)⟩, ⟨(some 42), (some (41, true)), .fld 5 (.tmp 1)⟩, ⟨(some 43), (some (41, true)), .load false 1 (.tmp 42)⟩, ⟨(some 44), (some (41, true)), .call 0 0 (.cst (.fn 119)) [(.tmp 43), (.cst (.int .i64 0)), (.cst (.int .i64 3))] [] []⟩, ⟨(some 45), none, .pick (.tmp 41) (.tmp 44) (.cst (.bool false))⟩, ⟨(some 46), none, .mov (.tmp 45)⟩, ⟨(some 47), (some (46, true)), .fld 6 (.tmp 1)⟩, ⟨(some 48), (some (46, true)), .load false 1 (.tmp 47)⟩, ⟨(some 49), (some (46, true)), .call 0 0 (.cst (.fn 107)) [(.tmp 48)] [] []⟩, ⟨(some 50), none, .pick (.tmp 46) (.tmp 49) (.cst (.bool false))⟩, ⟨(some 51), none, .mov (.tmp 50)⟩, ⟨(some 52), (some (51, true)), .fld 7 (.tmp 1)⟩, ⟨(some 53), (some (51, true)), .load false 1 (.tmp 52)⟩, ⟨(some 54), (some (51, true)), .call 0 0 (.cst (.fn 107)) [(.tmp 53)] [] []⟩, ⟨(some 55), none, .pick (.tmp 51) (.tmp 54) (.cst (.bool false))⟩, ⟨(some 56), none, .mov (.tmp 55)⟩, ⟨(some 57), (some (56, true)), .fld 6 (.tmp 1)⟩, ⟨(some 58), (some (56, true)), .load false 1 (.tmp 57)⟩, ⟨(some 59), (some (56, true)), .fld 7 (.tmp 1)⟩, ⟨(some 60), (some (56, true)), .load false 1 (.tmp 59)⟩, ⟨(some 61), (some (56, true)), .bin false .leq (.tmp 58) (.tmp 60)⟩, ⟨(some 62), none, .pick (.tmp 56) (.tmp 61) (.cst (.bool false))⟩, ⟨(some 2), none, .mov (.tmp 62)⟩]
def pchart_isRecordb : AC := (.seq (.ops pchart_isRecordr0) (.seq (.seq (.ops pchart_isRecordr1) (.cond (.tmp 24) (.seq (.ops pchart_isRecordr2) (.keep [] [(2, false)] [] [.loc 1 0] [] .ret)) .skip)) (.seq (.seq (.ops pchart_isRecordr3) (.cond (.tmp 37) (.seq (.ops pchart_isRecordr4) (.keep [] [(2, false)] [] [.loc 1 0] [] .ret)) .skip)) (.seq (.ops pchart_isRecordr5) (.keep [] [(2, false)] [] [.loc 1 0] [] .ret)))))
def pchart_isRecord : Fd := ⟨1, [.tmp 2], [], pchart_isRecordb⟩
theorem pchart_isRecord_ag : agreeF Tryz.prog Tryz.f82 pchart_isRecord = true := by kernel_rfl
theorem chart_isRecord_ok {r1 : T_api_Record} {r : Bool} (h : chart_isRecord r1 = some r) : Contract Tryz.prog 82 [.pv (T_api_Record.pv r1)] [] ⟨.pv (.bool r), [], []⟩ := by
 refine contract_fin hm Tryz.func82 pchart_isRecord_ag (by kernel_rfl) ?_
 unfold chart_isRecord at h
 refine W.seqOps (RunR.all (by kernel_rfl)) ?_
 refine W.assoc ?_
 replace h := bindS h
 obtain ⟨x2, hx2, h⟩ := h
 replace h := bindS h
 obtain ⟨c3, hc3, h⟩ := h
 replace h := bindS h
 obtain ⟨x4, hx4, h⟩ := h
 replace h := bindS h
 obtain ⟨c5, hc5, h⟩ := h
 replace h := bindS h
 obtain ⟨x6, hx6, h⟩ := h
 replace h := bindS h
 obtain ⟨c7, hc7, h⟩ := h
 replace h := bindS h
 obtain ⟨x8, hx8, h⟩ := h
 refine W.seqOps (RunR.stat 2 (by kernel_rfl) (RunR.cons (tab_cons (on := true) (fun _ => chart_in_Account_ok hx2) tab_nil) (Step.call0 (g := 124) (caps := []) (v := .pv (.bool x2)) (by kernel_rfl) (by kernel_rfl) (by kernel_rfl) (tab_hit (by kernel_rfl)) (by kernel_rfl)) (RunR.stat 1 (by kernel_rfl) (RunR.dyn (Step.name (f := eBool) (e := !x2) (c := c3) (by kernel_rfl) hc3) (RunR.puts 2 [(9, (bif !c3 then (.pv (.int .i64 r1.f_Kind)) else (.tup []))), (8, (bif !c3 then (.ptr (.loc 1 0) 1) else (.tup [])))] (by cases c3 <;> kernel_rfl) (RunR.cons (tab_cons (on := (!c3)) (fun hg => chart_in_int_ok (gdO_at hg hx4)) tab_nil) (Step.gdG (!c3) (by kernel_rfl) (by
    cases c3
    ·exact .inr ⟨by kernel_rfl, by kernel_rfl, Step.call0 (g := 119) (caps := []) (v := .pv (.bool x4)) (by kernel_rfl) (by kernel_rfl) (by kernel_rfl) (tab_hit (by kernel_rfl)) (by kernel_rfl)⟩
    ·exact .inl ⟨by kernel_rfl, by kernel_rfl⟩)) (RunR.puts 2 [(12, .pv (.bool (c3 || (!x4)))), (11, (bif !c3 then (.pv (.bool (!x4))) else (.tup [])))] (by cases c3 <;> kernel_rfl) (RunR.dyn (Step.name (f := eBool) (e := (c3 || (!x4))) (c := c5) (by kernel_rfl) hc5) (RunR.puts 2 [(15, (bif !c5 then (.pv (.int .i64 r1.f_Cur)) else (.tup []))), (14, (bif !c5 then (.ptr (.loc 1 0) 2) else (.tup [])))] (by cases c5 <;> kernel_rfl) (RunR.cons (tab_cons (on := (!c5)) (fun hg => chart_in_Currency_ok (gdO_at hg hx6)) tab_nil) (Step.gdG (!c5) (by kernel_rfl) (by
    cases c5
    ·exact .inr ⟨by kernel_rfl, by kernel_rfl, Step.call0 (g := 125) (caps := []) (v := .pv (.bool x6)) (by kernel_rfl) (by kernel_rfl) (by kernel_rfl) (tab_hit (by kernel_rfl)) (by kernel_rfl)⟩
    ·exact .inl ⟨by kernel_rfl, by kernel_rfl⟩)) (RunR.puts 2 [(18, .pv (.bool (c5 || (!x6)))), (17, (bif !c5 then (.pv (.bool (!x6))) else (.tup [])))] (by cases c5 <;> kernel_rfl) (RunR.dyn (Step.name (f := eBool) (e := (c5 || (!x6))) (c := c7) (by kernel_rfl) hc7) (RunR.puts 2 [(21, (bif !c7 then (.pv (.int .i64 r1.f_Customer)) else (.tup []))), (20, (bif !c7 then (.ptr (.loc 1 0) 3) else (.tup [])))] (by cases c7 <;> kernel_rfl) (RunR.cons (tab_cons (on := (!c7)) (fun hg => chart_in_int_ok (gdO_at hg hx8)) tab_nil) (Step.gdG (!c7) (by kernel_rfl) (by
    cases c7
    ·exact .inr ⟨by kernel_rfl, by kernel_rfl, Step.call0 (g := 119) (caps := []) (v := .pv (.bool x8)) (by kernel_rfl) (by kernel_rfl) (by kernel_rfl) (tab_hit (by kernel_rfl)) (by kernel_rfl)⟩
    ·exact .inl ⟨by kernel_rfl, by kernel_rfl⟩)) (RunR.puts 2 [(24, .pv (.bool (c7 || (!x8)))), (23, (bif !c7 then (.pv (.bool (!x8))) else (.tup [])))] (by cases c7 <;> kernel_rfl) ((.nil _))))))))))))))))) ?_
 refine W.seqCond (t := (c7 || (!x8))) (by kernel_rfl) h (fun hc h' => ?_) (fun hc h' => ?_)
 ·replace h := h'
  refine W.assoc ?_
  refine W.seqOps (RunR.all (by kernel_rfl)) ?_
  refine W.seqKeep rfl ?_
  cases h
  exact W.seqRet ((fin_ret (by kernel_rfl)))
 ·replace h := h'
  refine W.seqSkip ?_
  refine W.assoc ?_
  replace h := bindS h
  obtain ⟨c9, hc9, h⟩ := h
  replace h := bindS h
  obtain ⟨c10, hc10, h⟩ := h
  refine W.seqOps (RunR.stat 3 (by kernel_rfl) (RunR.dyn (Step.name (f := eBool) (e := decide (r1.f_Kind ≥ 2)) (c := c9) (by kernel_rfl) hc9) (RunR.puts 3 [(31, (bif c9 then (.pv (.bool (r1.f_Customer != 0))) else (.tup []))), (30, (bif c9 then (.pv (.int .i64 r1.f_Customer)) else (.tup []))), (29, (bif c9 then (.ptr (.loc 1 0) 3) else (.tup [])))] (by cases c9 <;> kernel_rfl) (RunR.dyn (Step.gdG c9 (by kernel_rfl) (by
     cases c9
     ·exact .inl ⟨by kernel_rfl, by kernel_rfl⟩
     ·exact .inr ⟨by kernel_rfl, by kernel_rfl, Step.name (f := eBool) (e := (r1.f_Customer != 0)) (c := c10) (by kernel_rfl) hc10⟩)) (RunR.puts 5 [(37, .pv (.bool (c9 && (c10 || (r1.f_Product != 0))))), (36, (bif c9 then (.pv (.bool (c10 || (r1.f_Product != 0)))) else (.tup []))), (35, (bif (c9 && (!c10)) then (.pv (.bool (r1.f_Product != 0))) else (.tup []))), (34, (bif (c9 && (!c10)) then (.pv (.int .i64 r1.f_Product)) else (.tup []))), (33, (bif (c9 && (!c10)) then (.ptr (.loc 1 0) 4) else (.tup [])))] (by cases c9 <;> cases c10 <;> kernel_rfl) ((.nil _))))))) ?_
  refine W.seqCond (t := (c9 && (c10 || (r1.f_Product != 0)))) (by kernel_rfl) h (fun hc h' => ?_) (fun hc h' => ?_)
  ·replace h := h'
   refine W.assoc ?_
   refine W.seqOps (RunR.all (by kernel_rfl)) ?_
   refine W.seqKeep rfl ?_
   cases h
   exact W.seqRet ((fin_ret (by kernel_rfl)))
  ·replace h := h'
   refine W.seqSkip ?_
   replace h := bindS h
   obtain ⟨x11, hx11, h⟩ := h
   replace h := bindS h
   obtain ⟨x12, hx12, h⟩ := h
   replace h := bindS h
   obtain ⟨c13, hc13, h⟩ := h
   replace h := bindS h
   obtain ⟨x14, hx14, h⟩ := h
   replace h := bindS h
   obtain ⟨c15, hc15, h⟩ := h
   replace h := bindS h
   obtain ⟨x16, hx16, h⟩ := h
   replace h := bindS h
   obtain ⟨c17, hc17, h⟩ := h
   refine W.seqOps (RunR.stat 2 (by kernel_rfl) (RunR.cons (tab_cons (on := true) (fun _ => chart_in_int_ok hx11) tab_nil) (Step.call0 (g := 119) (caps := []) (v := .pv (.bool x11)) (by kernel_rfl) (by kernel_rfl) (by kernel_rfl) (tab_hit (by kernel_rfl)) (by kernel_rfl)) (RunR.stat 1 (by kernel_rfl) (RunR.puts 2 [(43, (bif x11 then (.pv (.int .i64 r1.f_Partition)) else (.tup []))), (42, (bif x11 then (.ptr (.loc 1 0) 5) else (.tup [])))] (by cases x11 <;> kernel_rfl) (RunR.cons (tab_cons (on := x11) (fun hg => chart_in_int_ok (gdO_at hg hx12)) tab_nil) (Step.gdG x11 (by kernel_rfl) (by
      cases x11
      ·exact .inl ⟨by kernel_rfl, by kernel_rfl⟩
      ·exact .inr ⟨by kernel_rfl, by kernel_rfl, Step.call0 (g := 119) (caps := []) (v := .pv (.bool x12)) (by kernel_rfl) (by kernel_rfl) (by kernel_rfl) (tab_hit (by kernel_rfl)) (by kernel_rfl)⟩)) (RunR.puts 1 [(45, .pv (.bool (x11 && x12)))] (by cases x11 <;> kernel_rfl) (RunR.dyn (Step.name (f := eBool) (e := (x11 && x12)) (c := c13) (by kernel_rfl) hc13) (RunR.puts 2 [(48, (bif c13 then (.pv (.int .i32 r1.f_From)) else (.tup []))), (47, (bif c13 then (.ptr (.loc 1 0) 6) else (.tup [])))] (by cases c13 <;> kernel_rfl) (RunR.cons (tab_cons (on := c13) (fun hg => date_Right_ok (gdO_at hg hx14)) tab_nil) (Step.gdG c13 (by kernel_rfl) (by
      cases c13
      ·exact .inl ⟨by kernel_rfl, by kernel_rfl⟩
      ·exact .inr ⟨by kernel_rfl, by kernel_rfl, Step.call0 (g := 107) (caps := []) (v := .pv (.bool x14)) (by kernel_rfl) (by kernel_rfl) (by kernel_rfl) (tab_hit (by kernel_rfl)) (by kernel_rfl)⟩)) (RunR.puts 1 [(50, .pv (.bool (c13 && x14)))] (by cases c13 <;> kernel_rfl) (RunR.dyn (Step.name (f := eBool) (e := (c13 && x14)) (c := c15) (by kernel_rfl) hc15) (RunR.puts 2 [(53, (bif c15 then (.pv (.int .i32 r1.f_To)) else (.tup []))), (52, (bif c15 then (.ptr (.loc 1 0) 7) else (.tup [])))] (by cases c15 <;> kernel_rfl) (RunR.cons (tab_cons (on := c15) (fun hg => date_Right_ok (gdO_at hg hx16)) tab_nil) (Step.gdG c15 (by kernel_rfl) (by
      cases c15
      ·exact .inl ⟨by kernel_rfl, by kernel_rfl⟩
      ·exact .inr ⟨by kernel_rfl, by kernel_rfl, Step.call0 (g := 107) (caps := []) (v := .pv (.bool x16)) (by kernel_rfl) (by kernel_rfl) (by kernel_rfl) (tab_hit (by kernel_rfl)) (by kernel_rfl)⟩)) (RunR.puts 1 [(55, .pv (.bool (c15 && x16)))] (by cases c15 <;> kernel_rfl) (RunR.dyn (Step.name (f := eBool) (e := (c15 && x16)) (c := c17) (by kernel_rfl) hc17) (RunR.puts 6 [(62, .pv (.bool (c17 && (decide (r1.f_From ≤ r1.f_To))))), (61, (bif c17 then (.pv (.bool (decide (r1.f_From ≤ r1.f_To)))) else (.tup []))), (60, (bif c17 then (.pv (.int .i32 r1.f_To)) else (.tup []))), (59, (bif c17 then (.ptr (.loc 1 0) 7) else (.tup []))), (58, (bif c17 then (.pv (.int .i32 r1.f_From)) else (.tup []))), (57, (bif c17 then (.ptr (.loc 1 0) 6) else (.tup [])))] (by cases c17 <;> kernel_rfl) (RunR.all (by kernel_rfl)))))))))))))))))) ?_
   refine W.keep rfl ?_
   cases h
   exact W.ret ((fin_ret (by kernel_rfl)))
def pchart_Right_2r0 : List GOp := [⟨(some 2), none, .box (.tmp 0)⟩, ⟨(some 3), none, .mov (.cst (.bool false))⟩]
def pchart_Right_2r1 : List GOp := [⟨(some 7), none, .fld 0 (.tmp 1)⟩, ⟨(some 8), none, .load false 1 (.tmp 7)⟩, ⟨(some 9), none, .fld 3 (.tmp 2)⟩, ⟨(some 10), none, .load false 1 (.tmp 9)⟩, ⟨(some 11), none, .call 0 0 (.cst (.fn 81)) [(.tmp 8), (.tmp 10), (.cst (.fn 73))] [] []⟩, ⟨(some 6), none, .mov (.tmp 11)⟩, ⟨(some 12), none, .ext 0 (.tmp 6)⟩, ⟨(some 13), none, .ext 1 (.tmp 6)⟩, ⟨(some 4), none, .mov (.tmp 12)⟩, ⟨(some 5), none, .mov (.tmp 13)⟩]
def pchart_Right_2r2 : List GOp := [⟨(some 14), none, .load true 8 (.tmp 2)⟩, ⟨(some 15), none, .call 0 0 (.cst (.fn 82)) [(.tmp 14)] [] []⟩, ⟨(some 16), none, .un .not (.tmp 15)⟩, ⟨(some 17), none, .mov (.tmp 16)⟩, ⟨(some 18), (some (17, false)), .fld 3 (.tmp 2)⟩, ⟨(some 19), (some (17, false)), .load false 1 (.tmp 18)⟩, ⟨(some 20), (some (17, false)), .bin false .gtr (.tmp 19) (.cst (.int .i64 0))⟩, ⟨(some 21), (some (17, false)), .mov (.tmp 20)⟩, ⟨(some 22), (some (21, true)), .mov (.tmp 5)⟩, ⟨(some 23), (some (21, true)), .un .not (.tmp 22)⟩, ⟨(some 24), (some (17, false)), .pick (.tmp 21) (.tmp 23) (.cst (.bool false))⟩, ⟨(some 25), none, .pick (.tmp 17) (.cst (.bool true)) (.tmp 24)⟩, ⟨(some 3), none, .mov (.tmp 25)⟩]
def pchart_Right_2b : AC := (.seq (.ops pchart_Right_2r0) (.seq (.ops pchart_Right_2r1) (.seq (.ops pchart_Right_2r2) (.keep [] [(3, false)] [(.ext 0, false)] [.loc 2 0] [] .ret))))
def pchart_Right_2 : Fd := ⟨2, [.tmp 3], [], pchart_Right_2b⟩
theorem pchart_Right_2_ag : agreeF Tryz.prog Tryz.f80 pchart_Right_2 = true := by kernel_rfl
theorem chart_Right_2_ok {r1 : T_api_Record} {e2 : T_api_Chart} {r : Bool} (h : chart_Right_2 r1 e2 = some r) : Contract Tryz.prog 80 [.pv (T_api_Record.pv r1), .ptr (.ext 0) 0] [.box [.pv (.slice (List.map T_api_Customer.pv e2.f_Customers)), .pv (.slice (List.map T_api_Record.pv e2.f_Records))]] ⟨.pv (.bool r), [], [(some (.box [.pv (.slice (List.map T_api_Customer.pv e2.f_Customers)), .pv (.slice (List.map T_api_Record.pv e2.f_Records))]))]⟩ := by
 refine contract_fin hm Tryz.func80 pchart_Right_2_ag (by kernel_rfl) ?_
 unfold chart_Right_2 at h
 refine W.seqOps (RunR.all (by kernel_rfl)) ?_
 replace h := bindS h
 obtain ⟨x3, hx3, h⟩ := h
 refine W.seqOps (RunR.stat 4 (by kernel_rfl) (RunR.cons (tab_cons (on := true) (fun _ => chart_place_Customer_int_ok hx3) tab_nil) (Step.call0 (g := 81) (caps := []) (v := .tup [.pv (.int .i64 x3.1), .pv (.bool x3.2)]) (by kernel_rfl) (by kernel_rfl) (by kernel_rfl) (tab_hit (by kernel_rfl)) (by kernel_rfl)) (RunR.all (by kernel_rfl)))) ?_
 replace h := bindS h
 obtain ⟨x4, hx4, h⟩ := h
 replace h := bindS h
 obtain ⟨c5, hc5, h⟩ := h
 replace h := bindS h
 obtain ⟨c6, hc6, h⟩ := h
 refine W.seqOps (RunR.stat 1 (by kernel_rfl) (RunR.cons (tab_cons (on := true) (fun _ => chart_isRecord_ok hx4) tab_nil) (Step.call0 (g := 82) (caps := []) (v := .pv (.bool x4)) (by kernel_rfl) (by kernel_rfl) (by kernel_rfl) (tab_hit (by kernel_rfl)) (by kernel_rfl)) (RunR.stat 1 (by kernel_rfl) (RunR.dyn (Step.name (f := eBool) (e := !x4) (c := c5) (by kernel_rfl) hc5) (RunR.puts 3 [(20, (bif !c5 then (.pv (.bool (decide (r1.f_Customer > 0)))) else (.tup []))), (19, (bif !c5 then (.pv (.int .i64 r1.f_Customer)) else (.tup []))), (18, (bif !c5 then (.ptr (.loc 2 0) 3) else (.tup [])))] (by cases c5 <;> kernel_rfl) (RunR.dyn (Step.gdG (!c5) (by kernel_rfl) (by
    cases c5
    ·exact .inr ⟨by kernel_rfl, by kernel_rfl, Step.name (f := eBool) (e := decide (r1.f_Customer > 0)) (c := c6) (by kernel_rfl) hc6⟩
    ·exact .inl ⟨by kernel_rfl, by kernel_rfl⟩)) (RunR.puts 4 [(25, .pv (.bool (c5 || (c6 && (!x3.2))))), (24, (bif !c5 then (.pv (.bool (c6 && (!x3.2)))) else (.tup []))), (23, (bif ((!c5) && c6) then (.pv (.bool (!x3.2))) else (.tup []))), (22, (bif ((!c5) && c6) then (.pv (.bool x3.2)) else (.tup [])))] (by cases c5 <;> cases c6 <;> kernel_rfl) (RunR.all (by kernel_rfl))))))))) ?_
 refine W.keep rfl ?_
 cases h
 exact W.ret ((fin_ret (by kernel_rfl)))
def pslices_IndexFunc_Record_Recordr0 : List GOp := [⟨(some 4), none, .mov (.cst (.int .i64 0))⟩]
def pslices_IndexFunc_Record_Recordr1 : List GOp := [⟨(some 6), none, .mov (.tmp 0)⟩, ⟨(some 7), none, .len false (.tmp 6)⟩, ⟨(some 8), none, .mov (.cst (.int .i64 0))⟩]
def pslices_IndexFunc_Record_Recordr2 : List GOp := [⟨(some 9), none, .bin false .lss (.tmp 8) (.tmp 7)⟩]
def pslices_IndexFunc_Record_Recordr3 : List GOp := [⟨(some 10), none, .mov (.tmp 8)⟩, ⟨(some 5), none, .mov (.tmp 10)⟩]
def pslices_IndexFunc_Record_Recordr4 : List GOp := [⟨(some 11), none, .mov (.tmp 1)⟩, ⟨(some 12), none, .mov (.tmp 0)⟩, ⟨(some 13), none, .mov (.tmp 5)⟩, ⟨(some 14), none, .idx 8 (.tmp 12) (.tmp 13)⟩, ⟨(some 15), none, .load true 8 (.tmp 14)⟩, ⟨(some 16), none, .call 0 2 (.tmp 11) [(.tmp 15)] [] [.ext 0]⟩]
def pslices_IndexFunc_Record_Recordr5 : List GOp := [⟨(some 17), none, .mov (.tmp 5)⟩, ⟨(some 4), none, .mov (.tmp 17)⟩]
def pslices_IndexFunc_Record_Recordr6 : List GOp := [⟨(some 18), none, .bin false .add (.tmp 8) (.cst (.int .i64 1))⟩, ⟨(some 8), none, .mov (.tmp 18)⟩]
def pslices_IndexFunc_Record_Recordl7 : AC := (.keep [] [(0, false), (1, false), (7, false), (8, false)] [(.ext 0, false)] [] [] (.seq (.ops pslices_IndexFunc_Record_Recordr2) (.seq (.cond (.tmp 9) .skip (.exit 0)) (.seq (.pass 1 (.seq (.ops pslices_IndexFunc_Record_Recordr3) (.seq (.ops pslices_IndexFunc_Record_Recordr4) (.cond (.tmp 16) (.seq (.ops pslices_IndexFunc_Record_Recordr5) (.keep [] [(4, false)] [(.ext 0, false)] [] [] .ret)) .skip)))) (.ops pslices_IndexFunc_Record_Recordr6)))))
def pslices_IndexFunc_Record_Recordr8 : List GOp := [⟨(some 4), none, .mov (.cst (.int .i64 (-1)))⟩]
def pslices_IndexFunc_Record_Recordb : AC := (.seq (.ops pslices_IndexFunc_Record_Recordr0) (.seq (.seq (.ops pslices_IndexFunc_Record_Recordr1) (.block 0 (.loop [0, 1, 7, 8] [] pslices_IndexFunc_Record_Recordl7))) (.seq (.keep [] [] [(.ext 0, false)] [] [] (.ops pslices_IndexFunc_Record_Recordr8)) (.keep [] [(4, false)] [(.ext 0, false)] [] [] .ret))))
def pslices_IndexFunc_Record_Record : Fd := ⟨2, [.tmp 4], [], pslices_IndexFunc_Record_Recordb⟩
theorem pslices_IndexFunc_Record_Record_ag : agreeF Tryz.prog Tryz.f121 pslices_IndexFunc_Record_Record = true := by kernel_rfl
theorem slices_IndexFunc_Record_Record_ok {s1 : List T_api_Record} {e2 : T_api_Chart} {r : Int} (h : slices_IndexFunc_Record_Record s1 e2 = some r) : Contract Tryz.prog 121 [.pv (.slice (List.map T_api_Record.pv s1)), .fn 80 [.ptr (.ext 0) 0]] [.box [.pv (.slice (List.map T_api_Customer.pv e2.f_Customers)), .pv (.slice (List.map T_api_Record.pv e2.f_Records))]] ⟨.pv (.int .i64 r), [], [(some (.box [.pv (.slice (List.map T_api_Customer.pv e2.f_Customers)), .pv (.slice (List.map T_api_Record.pv e2.f_Records))]))]⟩ := by
 refine contract_fin hm Tryz.func121 pslices_IndexFunc_Record_Record_ag (by kernel_rfl) ?_
 unfold slices_IndexFunc_Record_Record at h
 refine W.seqOps (RunR.all (by kernel_rfl)) ?_
 refine W.assoc ?_
 refine W.seqOps (RunR.stat 1 (by kernel_rfl) (RunR.dyn (Step.lenT (f := T_api_Record.pv) (l := s1) (by kernel_rfl)) (RunR.all (by kernel_rfl)))) ?_
 replace h := bindS h
 obtain ⟨j3, hj3, h⟩ := h
 refine W.joinOut (j := j3) (o := r) (fun p σ => σ.tidy [] [] [(.ext 0, false)] [] [] = ⟨[], [(.ext 0, .box [.pv (.slice (List.map T_api_Customer.pv e2.f_Customers)), .pv (.slice (List.map T_api_Record.pv e2.f_Records))])]⟩) ?_ (fun p σj3 hp hsj3 => ?_) (fun p hp => ?_)
 ·refine W.blockLoopO (fun q σ => ((σ.forget [0, 1, 7, 8]).killAll []).tidy [] [(0, false), (1, false), (7, false), (8, false)] [(.ext 0, false)] [] [] = ⟨[(0, .pv (.slice (List.map T_api_Record.pv s1))), (1, .fn 80 [.ptr (.ext 0) 0]), (7, .pv (.int .i64 (s1.length : Int))), (8, .pv (.int .i64 q))], [(.ext 0, .box [.pv (.slice (List.map T_api_Customer.pv e2.f_Customers)), .pv (.slice (List.map T_api_Record.pv e2.f_Records))])]⟩) hj3 ?_ ?_
  ·show _ = _
   kernel_rfl
  ·intro x4 σj3 oj3 hJj3 h
   refine W.keep hJj3 ?_
   refine W.seqOps (RunR.all (by kernel_rfl)) ?_
   refine W.seqCond (t := decide (x4 < (s1.length : Int))) (by kernel_rfl) h (fun hc h' => ?_) (fun hc h' => ?_)
   ·replace h := h'
    refine W.seqSkip ?_
    refine W.seqPass ?_
    refine W.assoc ?_
    refine W.seqOps (RunR.all (by kernel_rfl)) ?_
    refine W.assoc ?_
    replace h := bindS h
    obtain ⟨x5, hx5, h⟩ := h
    replace h := bindS h
    obtain ⟨x6, hx6, h⟩ := h
    refine W.seqOps (RunR.stat 3 (by kernel_rfl) (RunR.dyn (Step.idxT (f := T_api_Record.pv) (l := s1) (n := x4) (e := x5) (k := .i64) (by kernel_rfl) (by kernel_rfl) hx5 (by kernel_rfl)) (RunR.stat 1 (by kernel_rfl) (RunR.cons (tab_cons (on := true) (fun _ => chart_Right_2_ok hx6) tab_nil) (Step.callG (g := 80) (caps := [.ptr (.ext 0) 0]) (v := .pv (.bool x6)) (ins := []) rfl (by kernel_rfl) (by kernel_rfl) (by kernel_rfl) (tab_hit (by kernel_rfl)) (by kernel_rfl) (by kernel_rfl)) ((.nil _)))))) ?_
    refine W.seqCond (t := x6) (by kernel_rfl) h (fun hc h' => ?_) (fun hc h' => ?_)
    ·replace h := h'
     refine W.assoc ?_
     refine W.seqOps (RunR.all (by kernel_rfl)) ?_
     refine W.seqKeep rfl ?_
     cases h
     exact W.seqRet ((outw_out ret_ne (bout_o ret_ne ret_ne' (fun e => by subst e; exact (fin_ret (by kernel_rfl))))))
    ·replace h := h'
     refine W.seqSkip ?_
     refine W.ops (RunR.all (by kernel_rfl)) ?_
     cases h
     exact (outw_in (by (show _ = _); kernel_rfl))
   ·replace h := h'
    cases h
    exact W.seqExit ((outw_out exit_ne (bout_x (by (show _ = _); kernel_rfl))))
 ·subst hp
  obtain ⟨⟩ := p
  refine W.seqKeep hsj3 ?_
  refine W.seqOps (RunR.all (by kernel_rfl)) ?_
  refine W.keep rfl ?_
  cases h
  exact W.ret ((fin_ret (by kernel_rfl)))
 ·subst hp
  exact Option.some.inj h
def pslices_ContainsFunc_Record_Recordr0 : List GOp := [⟨(some 4), none, .mov (.cst (.bool false))⟩]
def pslices_ContainsFunc_Record_Recordr1 : List GOp := [⟨(some 5), none, .mov (.tmp 0)⟩, ⟨(some 6), none, .mov (.tmp 1)⟩, ⟨(some 7), none, .call 0 2 (.cst (.fn 121)) [(.tmp 5), (.tmp 6)] [] [.ext 0]⟩, ⟨(some 8), none, .bin false .geq (.tmp 7) (.cst (.int .i64 0))⟩, ⟨(some 4), none, .mov (.tmp 8)⟩]
def pslices_ContainsFunc_Record_Recordb : AC := (.seq (.ops pslices_ContainsFunc_Record_Recordr0) (.seq (.ops pslices_ContainsFunc_Record_Recordr1) (.keep [] [(4, false)] [(.ext 0, false)] [] [] .ret)))
def pslices_ContainsFunc_Record_Record : Fd := ⟨2, [.tmp 4], [], pslices_ContainsFunc_Record_Recordb⟩
theorem pslices_ContainsFunc_Record_Record_ag : agreeF Tryz.prog Tryz.f79 pslices_ContainsFunc_Record_Record = true := by kernel_rfl
theorem slices_ContainsFunc_Record_Record_ok {s1 : List T_api_Record} {e2 : T_api_Chart} {r : Bool} (h : slices_ContainsFunc_Record_Record s1 e2 = some r) : Contract Tryz.prog 79 [.pv (.slice (List.map T_api_Record.pv s1)), .fn 80 [.ptr (.ext 0) 0]] [.box [.pv (.slice (List.map T_api_Customer.pv e2.f_Customers)), .pv (.slice (List.map T_api_Record.pv e2.f_Records))]] ⟨.pv (.bool r), [], [(some (.box [.pv (.slice (List.map T_api_Customer.pv e2.f_Customers)), .pv (.slice (List.map T_api_Record.pv e2.f_Records))]))]⟩ := by
 refine contract_fin hm Tryz.func79 pslices_ContainsFunc_Record_Record_ag (by kernel_rfl) ?_
 unfold slices_ContainsFunc_Record_Record at h
 refine W.seqOps (RunR.all (by kernel_rfl)) ?_
 replace h := bindS h
 obtain ⟨x3, hx3, h⟩ := h
 refine W.seqOps (RunR.stat 2 (by kernel_rfl) (RunR.cons (tab_cons (on := true) (fun _ => slices_IndexFunc_Record_Record_ok hx3) tab_nil) (Step.callG (g := 121) (caps := []) (v := .pv (.int .i64 x3)) (ins := []) rfl (by kernel_rfl) (by kernel_rfl) (by kernel_rfl) (tab_hit (by kernel_rfl)) (by kernel_rfl) (by kernel_rfl)) (RunR.all (by kernel_rfl)))) ?_
 refine W.keep rfl ?_
 cases h
 exact W.ret ((fin_ret (by kernel_rfl)))
def pchart_Rightr0 : List GOp := [⟨(some 1), none, .box (.tmp 0)⟩, ⟨(some 2), none, .mov (.cst (.bool false))⟩]
def pchart_Rightr1 : List GOp := [⟨(some 3), none, .fld 0 (.tmp 1)⟩, ⟨(some 4), none, .load false 1 (.tmp 3)⟩, ⟨(some 5), none, .len false (.tmp 4)⟩, ⟨(some 6), none, .bin false .gtr (.tmp 5) (.cst (.int .i64 100))⟩, ⟨(some 7), none, .mov (.tmp 6)⟩, ⟨(some 8), (some (7, false)), .fld 1 (.tmp 1)⟩, ⟨(some 9), (some (7, false)), .load false 1 (.tmp 8)⟩, ⟨(some 10), (some (7, false)), .len false (.tmp 9)⟩, ⟨(some 11), (some (7, false)), .bin false .gtr (.tmp 10) (.cst (.int .i64 200))⟩, ⟨(some 12), none, .pick (.tmp 7) (.cst (.bool true)) (.tmp 11)⟩, ⟨(some 13), none, .mov (.tmp 12)⟩, ⟨(some 14), (some (13, false)), .fld 0 (.tmp 1)⟩, ⟨(some 15), (some (13, false)), .load false 1 (.tmp 14)⟩, ⟨(some 16), (some (13, false)), .call 0 0 (.cst (.fn 72)) [(.tmp 15), (.cst (.fn 73))] [] []⟩, ⟨(some 17), (some (13, false)), .un .not (.tmp 16)⟩, ⟨(some 18), none, .pick (.tmp 13) (.cst (.bool true)) (.tmp 17)⟩, ⟨(some 19), none, .mov (.tmp 18)⟩, ⟨(some 20), (some (19, false)), .fld 1 (.tmp 1)⟩, ⟨(some 21), (some (19, false)), .load false 1 (.tmp 20)⟩, ⟨(some 22), (some (19, false)), .call 0 0 (.cst (.fn 74)) [(.tmp 21), (.cst (.fn 75))] [] []⟩, ⟨(some 23), (some (19, false)), .un .not (.tmp 22)⟩, ⟨(some 24), none, .pick (.tmp 19) (.cst (.bool true)) (.tmp 23)⟩]
def pchart_Rightr2 : List GOp := [⟨(some 2), none, .mov (.cst (.bool false))⟩]
def pchart_Rightr3 : List GOp := [⟨(some 25), none, .fld 0 (.tmp 1)⟩, ⟨(some 26), none, .load false 1 (.tmp 25)⟩, ⟨(some 27), none, .call 0 0 (.cst (.fn 76)) [(.tmp 26), (.cst (.fn 77))] [] []⟩]
def pchart_Rightr4 : List GOp := [⟨(some 2), none, .mov (.cst (.bool false))⟩]
def pchart_Rightr5 : List GOp := [⟨(some 28), none, .fld 1 (.tmp 1)⟩, ⟨(some 29), none, .load false 1 (.tmp 28)⟩, ⟨(some 30), none, .mkfn 80 [(.tmp 1)]⟩, ⟨(some 31), none, .call 0 2 (.cst (.fn 79)) [(.tmp 29), (.tmp 30)] [] [.loc 1 0]⟩, ⟨(some 32), none, .un .not (.tmp 31)⟩, ⟨(some 2), none, .mov (.tmp 32)⟩]
def pchart_Rightb : AC := (.seq (.ops pchart_Rightr0) (.seq (.seq (.ops pchart_Rightr1) (.cond (.tmp 24) (.seq (.ops pchart_Rightr2) (.keep [] [(2, false)] [] [.loc 1 0] [] .ret)) .skip)) (.seq (.seq (.ops pchart_Rightr3) (.cond (.tmp 27) (.seq (.ops pchart_Rightr4) (.keep [] [(2, false)] [] [.loc 1 0] [] .ret)) .skip)) (.seq (.ops pchart_Rightr5) (.keep [] [(2, false)] [] [.loc 1 0] [] .ret)))))
def pchart_Right : Fd := ⟨1, [.tmp 2], [], pchart_Rightb⟩
theorem pchart_Right_ag : agreeF Tryz.prog Tryz.f34 pchart_Right = true := by kernel_rfl
theorem chart_Right_ok {c1 : T_api_Chart} {r : Bool} (h : chart_Right c1 = some r) : Contract Tryz.prog 34 [.pv (T_api_Chart.pv c1)] [] ⟨.pv (.bool r), [], []⟩ := by
 refine contract_fin hm Tryz.func34 pchart_Right_ag (by kernel_rfl) ?_
 unfold chart_Right at h
 refine W.seqOps (RunR.all (by kernel_rfl)) ?_
 refine W.assoc ?_
 replace h := bindS h
 obtain ⟨c2, hc2, h⟩ := h
 replace h := bindS h
 obtain ⟨c3, hc3, h⟩ := h
 replace h := bindS h
 obtain ⟨x4, hx4, h⟩ := h
 replace h := bindS h
 obtain ⟨c5, hc5, h⟩ := h
 replace h := bindS h
 obtain ⟨x6, hx6, h⟩ := h
 refine W.seqOps (RunR.stat 2 (by kernel_rfl) (RunR.dyn (Step.lenT (f := T_api_Customer.pv) (l := c1.f_Customers) (by kernel_rfl)) (RunR.stat 1 (by kernel_rfl) (RunR.dyn (Step.name (f := eBool) (e := decide ((c1.f_Customers.length : Int) > 100)) (c := c2) (by kernel_rfl) hc2) (RunR.puts 2 [(9, (bif !c2 then (.pv (.slice (List.map T_api_Record.pv c1.f_Records))) else (.tup []))), (8, (bif !c2 then (.ptr (.loc 1 0) 1) else (.tup [])))] (by cases c2 <;> kernel_rfl) (RunR.dyn (Step.gdG (!c2) (by kernel_rfl) (by
    cases c2
    ·exact .inr ⟨by kernel_rfl, by kernel_rfl, Step.lenT (f := T_api_Record.pv) (l := c1.f_Records) (by kernel_rfl)⟩
    ·exact .inl ⟨by kernel_rfl, by kernel_rfl⟩)) (RunR.puts 2 [(12, .pv (.bool (c2 || (decide ((c1.f_Records.length : Int) > 200))))), (11, (bif !c2 then (.pv (.bool (decide ((c1.f_Records.length : Int) > 200)))) else (.tup [])))] (by cases c2 <;> kernel_rfl) (RunR.dyn (Step.name (f := eBool) (e := (c2 || (decide ((c1.f_Records.length : Int) > 200)))) (c := c3) (by kernel_rfl) hc3) (RunR.puts 2 [(15, (bif !c3 then (.pv (.slice (List.map T_api_Customer.pv c1.f_Customers))) else (.tup []))), (14, (bif !c3 then (.ptr (.loc 1 0) 0) else (.tup [])))] (by cases c3 <;> kernel_rfl) (RunR.cons (tab_cons (on := (!c3)) (fun hg => chart_rises_Customer_int_ok (gdO_at hg hx4)) tab_nil) (Step.gdG (!c3) (by kernel_rfl) (by
    cases c3
    ·exact .inr ⟨by kernel_rfl, by kernel_rfl, Step.call0 (g := 72) (caps := []) (v := .pv (.bool x4)) (by kernel_rfl) (by kernel_rfl) (by kernel_rfl) (tab_hit (by kernel_rfl)) (by kernel_rfl)⟩
    ·exact .inl ⟨by kernel_rfl, by kernel_rfl⟩)) (RunR.puts 2 [(18, .pv (.bool (c3 || (!x4)))), (17, (bif !c3 then (.pv (.bool (!x4))) else (.tup [])))] (by cases c3 <;> kernel_rfl) (RunR.dyn (Step.name (f := eBool) (e := (c3 || (!x4))) (c := c5) (by kernel_rfl) hc5) (RunR.puts 2 [(21, (bif !c5 then (.pv (.slice (List.map T_api_Record.pv c1.f_Records))) else (.tup []))), (20, (bif !c5 then (.ptr (.loc 1 0) 1) else (.tup [])))] (by cases c5 <;> kernel_rfl) (RunR.cons (tab_cons (on := (!c5)) (fun hg => chart_rises_Record_Account_ok (gdO_at hg hx6)) tab_nil) (Step.gdG (!c5) (by kernel_rfl) (by
    cases c5
    ·exact .inr ⟨by kernel_rfl, by kernel_rfl, Step.call0 (g := 74) (caps := []) (v := .pv (.bool x6)) (by kernel_rfl) (by kernel_rfl) (by kernel_rfl) (tab_hit (by kernel_rfl)) (by kernel_rfl)⟩
    ·exact .inl ⟨by kernel_rfl, by kernel_rfl⟩)) (RunR.puts 2 [(24, .pv (.bool (c5 || (!x6)))), (23, (bif !c5 then (.pv (.bool (!x6))) else (.tup [])))] (by cases c5 <;> kernel_rfl) ((.nil _))))))))))))))))) ?_
 refine W.seqCond (t := (c5 || (!x6))) (by kernel_rfl) h (fun hc h' => ?_) (fun hc h' => ?_)
 ·replace h := h'
  refine W.assoc ?_
  refine W.seqOps (RunR.all (by kernel_rfl)) ?_
  refine W.seqKeep rfl ?_
  cases h
  exact W.seqRet ((fin_ret (by kernel_rfl)))
 ·replace h := h'
  refine W.seqSkip ?_
  refine W.assoc ?_
  replace h := bindS h
  obtain ⟨x7, hx7, h⟩ := h
  refine W.seqOps (RunR.stat 2 (by kernel_rfl) (RunR.cons (tab_cons (on := true) (fun _ => slices_ContainsFunc_Customer_Customer_ok hx7) tab_nil) (Step.call0 (g := 76) (caps := []) (v := .pv (.bool x7)) (by kernel_rfl) (by kernel_rfl) (by kernel_rfl) (tab_hit (by kernel_rfl)) (by kernel_rfl)) ((.nil _)))) ?_
  refine W.seqCond (t := x7) (by kernel_rfl) h (fun hc h' => ?_) (fun hc h' => ?_)
  ·replace h := h'
   refine W.assoc ?_
   refine W.seqOps (RunR.all (by kernel_rfl)) ?_
   refine W.seqKeep rfl ?_
   cases h
   exact W.seqRet ((fin_ret (by kernel_rfl)))
  ·replace h := h'
   refine W.seqSkip ?_
   replace h := bindS h
   obtain ⟨x8, hx8, h⟩ := h
   refine W.seqOps (RunR.stat 3 (by kernel_rfl) (RunR.cons (tab_cons (on := true) (fun _ => slices_ContainsFunc_Record_Record_ok hx8) tab_nil) (Step.callG (g := 79) (caps := []) (v := .pv (.bool x8)) (ins := []) rfl (by kernel_rfl) (by kernel_rfl) (by kernel_rfl) (tab_hit (by kernel_rfl)) (by kernel_rfl) (by kernel_rfl)) (RunR.all (by kernel_rfl)))) ?_
   refine W.keep rfl ?_
   cases h
   exact W.ret ((fin_ret (by kernel_rfl)))
def pmoney_isr0 : List GOp := [⟨(some 2), none, .mov (.cst (.bool false))⟩]
def pmoney_isr1 : List GOp := [⟨(some 3), none, .mov (.tmp 0)⟩, ⟨(some 4), none, .bin false .geq (.tmp 3) (.cst (.int .i64 0))⟩, ⟨(some 5), none, .mov (.tmp 4)⟩, ⟨(some 6), (some (5, true)), .mov (.tmp 0)⟩, ⟨(some 7), (some (5, true)), .bin false .lss (.tmp 6) (.cst (.int .i64 4))⟩, ⟨(some 8), none, .pick (.tmp 5) (.tmp 7) (.cst (.bool false))⟩, ⟨(some 2), none, .mov (.tmp 8)⟩]
def pmoney_isb : AC := (.seq (.ops pmoney_isr0) (.seq (.ops pmoney_isr1) (.keep [] [(2, false)] [] [] [] .ret)))
def pmoney_is : Fd := ⟨1, [.tmp 2], [], pmoney_isb⟩
theorem pmoney_is_ag : agreeF Tryz.prog Tryz.f130 pmoney_is = true := by kernel_rfl
theorem money_is_ok {cur1 : Int} {r : Bool} (h : money_is cur1 = some r) : Contract Tryz.prog 130 [.pv (.int .i64 cur1)] [] ⟨.pv (.bool r), [], []⟩ := by
 refine contract_fin hm Tryz.func130 pmoney_is_ag (by kernel_rfl) ?_
 unfold money_is at h
 refine W.seqOps (RunR.all (by kernel_rfl)) ?_
 replace h := bindS h
 obtain ⟨c2, hc2, h⟩ := h
 refine W.seqOps (RunR.stat 2 (by kernel_rfl) (RunR.dyn (Step.name (f := eBool) (e := decide (cur1 ≥ 0)) (c := c2) (by kernel_rfl) hc2) (RunR.puts 3 [(8, .pv (.bool (c2 && (decide (cur1 < 4))))), (7, (bif c2 then (.pv (.bool (decide (cur1 < 4)))) else (.tup []))), (6, (bif c2 then (.pv (.int .i64 cur1)) else (.tup [])))] (by cases c2 <;> kernel_rfl) (RunR.all (by kernel_rfl))))) ?_
 refine W.keep rfl ?_
 cases h
 exact W.ret ((fin_ret (by kernel_rfl)))
def pmoney_Rightr0 : List GOp := [⟨(some 1), none, .box (.tmp 0)⟩, ⟨(some 2), none, .mov (.cst (.bool false))⟩]
def pmoney_Rightr1 : List GOp := [⟨(some 3), none, .fld 0 (.tmp 1)⟩, ⟨(some 4), none, .load false 1 (.tmp 3)⟩, ⟨(some 5), none, .call 0 0 (.cst (.fn 130)) [(.tmp 4)] [] []⟩, ⟨(some 6), none, .mov (.tmp 5)⟩, ⟨(some 7), (some (6, true)), .fld 1 (.tmp 1)⟩, ⟨(some 8), (some (6, true)), .load false 1 (.tmp 7)⟩, ⟨(some 9), (some (6, true)), .bin false .geq (.tmp 8) (.cst (.int .i64 (-1000000000000000)))⟩, ⟨(some 10), none, .pick (.tmp 6) (.tmp 9) (.cst (.bool false))⟩, ⟨(some 11), none, .mov (.tmp 10)⟩, ⟨(some 12), (some (11, true)), .fld 1 (.tmp 1)⟩, ⟨(some 13), (some (11, true)), .load false 1 (.tmp 12)⟩, ⟨(some 14), (some (11, true)), .bin false .leq (.tmp 13) (.cst (.int .i64 1000000000000000))⟩, ⟨(some 15), none, .pick (.tmp 11) (.tmp 14) (.cst (.bool false))⟩, ⟨(some 2), none, .mov (.tmp 15)⟩]
def pmoney_Rightb : AC := (.seq (.ops pmoney_Rightr0) (.seq (.ops pmoney_Rightr1) (.keep [] [(2, false)] [] [.loc 1 0] [] .ret)))
def pmoney_Right : Fd := ⟨1, [.tmp 2], [], pmoney_Rightb⟩
theorem pmoney_Right_ag : agreeF Tryz.prog Tryz.f99 pmoney_Right = true := by kernel_rfl
theorem money_Right_ok {m1 : T_api_Money} {r : Bool} (h : money_Right m1 = some r) : Contract Tryz.prog 99 [.pv (T_api_Money.pv m1)] [] ⟨.pv (.bool r), [], []⟩ := by
 refine contract_fin hm Tryz.func99 pmoney_Right_ag (by kernel_rfl) ?_
 unfold money_Right at h
 refine W.seqOps (RunR.all (by kernel_rfl)) ?_
 replace h := bindS h
 obtain ⟨x2, hx2, h⟩ := h
 replace h := bindS h
 obtain ⟨c3, hc3, h⟩ := h
 refine W.seqOps (RunR.stat 2 (by kernel_rfl) (RunR.cons (tab_cons (on := true) (fun _ => money_is_ok hx2) tab_nil) (Step.call0 (g := 130) (caps := []) (v := .pv (.bool x2)) (by kernel_rfl) (by kernel_rfl) (by kernel_rfl) (tab_hit (by kernel_rfl)) (by kernel_rfl)) (RunR.stat 1 (by kernel_rfl) (RunR.puts 4 [(10, .pv (.bool (x2 && (decide (m1.f_Minor ≥ (-1000000000000000)))))), (9, (bif x2 then (.pv (.bool (decide (m1.f_Minor ≥ (-1000000000000000))))) else (.tup []))), (8, (bif x2 then (.pv (.int .i64 m1.f_Minor)) else (.tup []))), (7, (bif x2 then (.ptr (.loc 1 0) 1) else (.tup [])))] (by cases x2 <;> kernel_rfl) (RunR.dyn (Step.name (f := eBool) (e := (x2 && (decide (m1.f_Minor ≥ (-1000000000000000))))) (c := c3) (by kernel_rfl) hc3) (RunR.puts 4 [(15, .pv (.bool (c3 && (decide (m1.f_Minor ≤ 1000000000000000))))), (14, (bif c3 then (.pv (.bool (decide (m1.f_Minor ≤ 1000000000000000)))) else (.tup []))), (13, (bif c3 then (.pv (.int .i64 m1.f_Minor)) else (.tup []))), (12, (bif c3 then (.ptr (.loc 1 0) 1) else (.tup [])))] (by cases c3 <;> kernel_rfl) (RunR.all (by kernel_rfl)))))))) ?_
 refine W.keep rfl ?_
 cases h
 exact W.ret ((fin_ret (by kernel_rfl)))
def phold_rightr0 : List GOp := [⟨(some 1), none, .box (.tmp 0)⟩, ⟨(some 2), none, .mov (.cst (.bool false))⟩]
def phold_rightr1 : List GOp := [⟨(some 5), none, .fld 0 (.tmp 1)⟩, ⟨(some 6), none, .load false 1 (.tmp 5)⟩, ⟨(some 7), none, .bin false .geq (.tmp 6) (.cst (.int .i64 1))⟩, ⟨(some 8), none, .mov (.tmp 7)⟩, ⟨(some 9), (some (8, true)), .fld 0 (.tmp 1)⟩, ⟨(some 10), (some (8, true)), .load false 1 (.tmp 9)⟩, ⟨(some 11), (some (8, true)), .bin false .leq (.tmp 10) (.cst (.int .i64 1000000))⟩, ⟨(some 12), none, .pick (.tmp 8) (.tmp 11) (.cst (.bool false))⟩, ⟨(some 13), none, .mov (.tmp 12)⟩, ⟨(some 14), (some (13, true)), .fld 1 (.tmp 1)⟩, ⟨(some 15), (some (13, true)), .load false 1 (.tmp 14)⟩, ⟨(some 16), (some (13, true)), .bin false .geq (.tmp 15) (.cst (.int .i64 1))⟩, ⟨(some 17), none, .pick (.tmp 13) (.tmp 16) (.cst (.bool false))⟩, ⟨(some 18), none, .mov (.tmp 17)⟩, ⟨(some 19), (some (18, true)), .fld 1 (.tmp 1)⟩, ⟨(some 20), (some (18, true)), .load false 1 (.tmp 19)⟩, ⟨(some 21), (some (18, true)), .bin false .leq (.tmp 20) (.cst (.int .i64 999))⟩, ⟨(some 22), none, .pick (.tmp 18) (.tmp 21) (.cst (.bool false))⟩, ⟨(some 23), none, .mov (.tmp 22)⟩, ⟨(some 24), (some (23, true)), .fld 4 (.tmp 1)⟩, ⟨(some 25), (some (23, true)), .load false 1 (.tmp 24)⟩, ⟨(some 26), (some (23, true)), .bin false .geq (.tmp 25) (.cst (.int .i64 0))⟩, ⟨(some 27), none, .pick (.tmp 23) (.tmp 26) (.cst (.bool false))⟩, ⟨(some 28), none, .mov (.tmp 27)⟩, ⟨(some 29), (some (28, true)), .fld 4 (.tmp 1)⟩, ⟨(some 30), (some (28, true)), .load false 1 (.tmp 29)⟩, ⟨(some 31), (some (28, true)), .bin false .leq (.tmp 30) (.cst (.int .i64 9))⟩, ⟨(some 32), none, .pick (.tmp 28) (.tmp 31) (.cst (.bool false))⟩, ⟨(some 3), none, .mov (.tmp 32)⟩]
def phold_rightr2 : List GOp := [⟨(some 33), none, .fld 2 (.tmp 1)⟩, ⟨(some 34), none, .load true 2 (.tmp 33)⟩, ⟨(some 35), none, .call 0 0 (.cst (.fn 99)) [(.tmp 34)] [] []⟩, ⟨(some 36), none, .mov (.tmp 35)⟩, ⟨(some 37), (some (36, true)), .fld 2 (.tmp 1)⟩, ⟨(some 38), (some (36, true)), .fld 1 (.tmp 37)⟩, ⟨(some 39), (some (36, true)), .load false 1 (.tmp 38)⟩, ⟨(some 40), (some (36, true)), .bin false .gtr (.tmp 39) (.cst (.int .i64 0))⟩, ⟨(some 41), none, .pick (.tmp 36) (.tmp 40) (.cst (.bool false))⟩, ⟨(some 42), none, .mov (.tmp 41)⟩, ⟨(some 43), (some (42, true)), .fld 7 (.tmp 1)⟩, ⟨(some 44), (some (42, true)), .load false 1 (.tmp 43)⟩, ⟨(some 45), (some (42, true)), .bin false .geq (.tmp 44) (.cst (.int .i64 0))⟩, ⟨(some 46), none, .pick (.tmp 42) (.tmp 45) (.cst (.bool false))⟩, ⟨(some 47), none, .mov (.tmp 46)⟩, ⟨(some 48), (some (47, true)), .fld 7 (.tmp 1)⟩, ⟨(some 49), (some (47, true)), .load false 1 (.tmp 48)⟩, ⟨(some 50), (some (47, true)), .fld 2 (.tmp 1)⟩, ⟨(some 51), (some (47, true)), .fld 1 (.tmp 50)⟩, ⟨(some 52), (some (47, true)), .load false 1 (.tmp 51)⟩, ⟨(some 53), (some (47, true)), .bin false .leq (.tmp 49) (.tmp 52)⟩, ⟨(some 54), none, .pick (.tmp 47) (.tmp 53) (.cst (.bool false))⟩, ⟨(some 4), none, .mov (.tmp 54)⟩]
def phold_rightr3 : List GOp := [⟨(some 55), none, .mov (.tmp 3)⟩, ⟨(some 56), none, .mov (.tmp 55)⟩, ⟨(some 57), (some (56, true)), .mov (.tmp 4)⟩, ⟨(some 58), none, .pick (.tmp 56) (.tmp 57) (.cst (.bool false))⟩, ⟨(some 59), none, .mov (.tmp 58)⟩, ⟨(some 60), (some (59, true)), .fld 5 (.tmp 1)⟩, ⟨(some 61), (some (59, true)), .load false 1 (.tmp 60)⟩, ⟨(some 62), (some (59, true)), .call 0 0 (.cst (.fn 107)) [(.tmp 61)] [] []⟩, ⟨(some 63), none, .pick (.tmp 59) (.tmp 62) (.cst (.bool false))⟩, ⟨(some 64), none, .mov (.tmp 63)⟩, ⟨(some 65), (some (64, true)), .fld 6 (.tmp 1)⟩, ⟨(some 66), (some (64, true)), .load false 1 (.tmp 65)⟩, ⟨(some 67), (some (64, true)), .call 0 0 (.cst (.fn 107)) [(.tmp 66)] [] []⟩, ⟨(some 68), none, .pick (.tmp 64) (.tmp 67) (.cst (.bool false))⟩, ⟨(some 69), none, .mov (.tmp 68)⟩, ⟨(some 70), (some (69, true)), .fld 5 (.tmp 1)⟩, ⟨(some 71), (some (69, true)), .load false 1 (.tmp 70)⟩, ⟨(some 72), (some (69, true)), .fld 6 (.tmp 1)⟩, ⟨(some 73), (some (69, true)), .load false 1 (.tmp 72)⟩, ⟨(some 74), (some (69, true)), .bin false .leq (.tmp 71) (.tmp 73)⟩, ⟨(some 75), none, .pick (.tmp 69) (.tmp 74) (.cst (.bool false))⟩, ⟨(some 2), none, .mov (.tmp 75)⟩]
def phold_rightb : AC := (.seq (.ops phold_rightr0) (.seq (.ops phold_rightr1) (.seq (.ops phold_rightr2) (.seq (.ops phold_rightr3) (.keep [] [(2, false)] [] [.loc 1 0] [] .ret)))))
def phold_right : Fd := ⟨1, [.tmp 2], [], phold_rightb⟩
theorem phold_right_ag : agreeF Tryz.prog Tryz.f84 phold_right = true := by kernel_rfl
theorem hold_right_ok {h1 : T_api_Hold} {r : Bool} (h : hold_right h1 = some r) : Contract Tryz.prog 84 [.pv (T_api_Hold.pv h1)] [] ⟨.pv (.bool r), [], []⟩ := by
 refine contract_fin hm Tryz.func84 phold_right_ag (by kernel_rfl) ?_
 unfold hold_right at h
 refine W.seqOps (RunR.all (by kernel_rfl)) ?_
 replace h := bindS h
 obtain ⟨c2, hc2, h⟩ := h
 replace h := bindS h
 obtain ⟨c3, hc3, h⟩ := h
 replace h := bindS h
 obtain ⟨c4, hc4, h⟩ := h
 replace h := bindS h
 obtain ⟨c5, hc5, h⟩ := h
 replace h := bindS h
 obtain ⟨c6, hc6, h⟩ := h
 refine W.seqOps (RunR.stat 3 (by kernel_rfl) (RunR.dyn (Step.name (f := eBool) (e := decide (h1.f_ID ≥ 1)) (c := c2) (by kernel_rfl) hc2) (RunR.puts 4 [(12, .pv (.bool (c2 && (decide (h1.f_ID ≤ 1000000))))), (11, (bif c2 then (.pv (.bool (decide (h1.f_ID ≤ 1000000)))) else (.tup []))), (10, (bif c2 then (.pv (.int .i64 h1.f_ID)) else (.tup []))), (9, (bif c2 then (.ptr (.loc 1 0) 0) else (.tup [])))] (by cases c2 <;> kernel_rfl) (RunR.dyn (Step.name (f := eBool) (e := (c2 && (decide (h1.f_ID ≤ 1000000)))) (c := c3) (by kernel_rfl) hc3) (RunR.puts 4 [(17, .pv (.bool (c3 && (decide (h1.f_Acc ≥ 1))))), (16, (bif c3 then (.pv (.bool (decide (h1.f_Acc ≥ 1)))) else (.tup []))), (15, (bif c3 then (.pv (.int .i64 h1.f_Acc)) else (.tup []))), (14, (bif c3 then (.ptr (.loc 1 0) 1) else (.tup [])))] (by cases c3 <;> kernel_rfl) (RunR.dyn (Step.name (f := eBool) (e := (c3 && (decide (h1.f_Acc ≥ 1)))) (c := c4) (by kernel_rfl) hc4) (RunR.puts 4 [(22, .pv (.bool (c4 && (decide (h1.f_Acc ≤ 999))))), (21, (bif c4 then (.pv (.bool (decide (h1.f_Acc ≤ 999)))) else (.tup []))), (20, (bif c4 then (.pv (.int .i64 h1.f_Acc)) else (.tup []))), (19, (bif c4 then (.ptr (.loc 1 0) 1) else (.tup [])))] (by cases c4 <;> kernel_rfl) (RunR.dyn (Step.name (f := eBool) (e := (c4 && (decide (h1.f_Acc ≤ 999)))) (c := c5) (by kernel_rfl) hc5) (RunR.puts 4 [(27, .pv (.bool (c5 && (decide (h1.f_Rank ≥ 0))))), (26, (bif c5 then (.pv (.bool (decide (h1.f_Rank ≥ 0)))) else (.tup []))), (25, (bif c5 then (.pv (.int .i64 h1.f_Rank)) else (.tup []))), (24, (bif c5 then (.ptr (.loc 1 0) 4) else (.tup [])))] (by cases c5 <;> kernel_rfl) (RunR.dyn (Step.name (f := eBool) (e := (c5 && (decide (h1.f_Rank ≥ 0)))) (c := c6) (by kernel_rfl) hc6) (RunR.puts 4 [(32, .pv (.bool (c6 && (decide (h1.f_Rank ≤ 9))))), (31, (bif c6 then (.pv (.bool (decide (h1.f_Rank ≤ 9)))) else (.tup []))), (30, (bif c6 then (.pv (.int .i64 h1.f_Rank)) else (.tup []))), (29, (bif c6 then (.ptr (.loc 1 0) 4) else (.tup [])))] (by cases c6 <;> kernel_rfl) (RunR.all (by kernel_rfl))))))))))))) ?_
 replace h := bindS h
 obtain ⟨x7, hx7, h⟩ := h
 replace h := bindS h
 obtain ⟨c8, hc8, h⟩ := h
 replace h := bindS h
 obtain ⟨c9, hc9, h⟩ := h
 refine W.seqOps (RunR.stat 2 (by kernel_rfl) (RunR.cons (tab_cons (on := true) (fun _ => money_Right_ok hx7) tab_nil) (Step.call0 (g := 99) (caps := []) (v := .pv (.bool x7)) (by kernel_rfl) (by kernel_rfl) (by kernel_rfl) (tab_hit (by kernel_rfl)) (by kernel_rfl)) (RunR.stat 1 (by kernel_rfl) (RunR.puts 5 [(41, .pv (.bool (x7 && (decide (h1.f_Amount.f_Minor > 0))))), (40, (bif x7 then (.pv (.bool (decide (h1.f_Amount.f_Minor > 0)))) else (.tup []))), (39, (bif x7 then (.pv (.int .i64 h1.f_Amount.f_Minor)) else (.tup []))), (38, (bif x7 then (.ptr (.loc 1 0) 3) else (.tup []))), (37, (bif x7 then (.ptr (.loc 1 0) 2) else (.tup [])))] (by cases x7 <;> kernel_rfl) (RunR.dyn (Step.name (f := eBool) (e := (x7 && (decide (h1.f_Amount.f_Minor > 0)))) (c := c8) (by kernel_rfl) hc8) (RunR.puts 4 [(46, .pv (.bool (c8 && (decide (h1.f_Taken ≥ 0))))), (45, (bif c8 then (.pv (.bool (decide (h1.f_Taken ≥ 0)))) else (.tup []))), (44, (bif c8 then (.pv (.int .i64 h1.f_Taken)) else (.tup []))), (43, (bif c8 then (.ptr (.loc 1 0) 7) else (.tup [])))] (by cases c8 <;> kernel_rfl) (RunR.dyn (Step.name (f := eBool) (e := (c8 && (decide (h1.f_Taken ≥ 0)))) (c := c9) (by kernel_rfl) hc9) (RunR.puts 7 [(54, .pv (.bool (c9 && (decide (h1.f_Taken ≤ h1.f_Amount.f_Minor))))), (53, (bif c9 then (.pv (.bool (decide (h1.f_Taken ≤ h1.f_Amount.f_Minor)))) else (.tup []))), (52, (bif c9 then (.pv (.int .i64 h1.f_Amount.f_Minor)) else (.tup []))), (51, (bif c9 then (.ptr (.loc 1 0) 3) else (.tup []))), (50, (bif c9 then (.ptr (.loc 1 0) 2) else (.tup []))), (49, (bif c9 then (.pv (.int .i64 h1.f_Taken)) else (.tup []))), (48, (bif c9 then (.ptr (.loc 1 0) 7) else (.tup [])))] (by cases c9 <;> kernel_rfl) (RunR.all (by kernel_rfl)))))))))) ?_
 replace h := bindS h
 obtain ⟨c10, hc10, h⟩ := h
 replace h := bindS h
 obtain ⟨c11, hc11, h⟩ := h
 replace h := bindS h
 obtain ⟨x12, hx12, h⟩ := h
 replace h := bindS h
 obtain ⟨c13, hc13, h⟩ := h
 replace h := bindS h
 obtain ⟨x14, hx14, h⟩ := h
 replace h := bindS h
 obtain ⟨c15, hc15, h⟩ := h
 refine W.seqOps (RunR.stat 1 (by kernel_rfl) (RunR.dyn (Step.name (f := eBool) (e := (c6 && (decide (h1.f_Rank ≤ 9)))) (c := c10) (by kernel_rfl) hc10) (RunR.puts 2 [(58, .pv (.bool (c10 && (c9 && (decide (h1.f_Taken ≤ h1.f_Amount.f_Minor)))))), (57, (bif c10 then (.pv (.bool (c9 && (decide (h1.f_Taken ≤ h1.f_Amount.f_Minor))))) else (.tup [])))] (by cases c10 <;> kernel_rfl) (RunR.dyn (Step.name (f := eBool) (e := (c10 && (c9 && (decide (h1.f_Taken ≤ h1.f_Amount.f_Minor))))) (c := c11) (by kernel_rfl) hc11) (RunR.puts 2 [(61, (bif c11 then (.pv (.int .i32 h1.f_Made)) else (.tup []))), (60, (bif c11 then (.ptr (.loc 1 0) 5) else (.tup [])))] (by cases c11 <;> kernel_rfl) (RunR.cons (tab_cons (on := c11) (fun hg => date_Right_ok (gdO_at hg hx12)) tab_nil) (Step.gdG c11 (by kernel_rfl) (by
    cases c11
    ·exact .inl ⟨by kernel_rfl, by kernel_rfl⟩
    ·exact .inr ⟨by kernel_rfl, by kernel_rfl, Step.call0 (g := 107) (caps := []) (v := .pv (.bool x12)) (by kernel_rfl) (by kernel_rfl) (by kernel_rfl) (tab_hit (by kernel_rfl)) (by kernel_rfl)⟩)) (RunR.puts 1 [(63, .pv (.bool (c11 && x12)))] (by cases c11 <;> kernel_rfl) (RunR.dyn (Step.name (f := eBool) (e := (c11 && x12)) (c := c13) (by kernel_rfl) hc13) (RunR.puts 2 [(66, (bif c13 then (.pv (.int .i32 h1.f_Until)) else (.tup []))), (65, (bif c13 then (.ptr (.loc 1 0) 6) else (.tup [])))] (by cases c13 <;> kernel_rfl) (RunR.cons (tab_cons (on := c13) (fun hg => date_Right_ok (gdO_at hg hx14)) tab_nil) (Step.gdG c13 (by kernel_rfl) (by
    cases c13
    ·exact .inl ⟨by kernel_rfl, by kernel_rfl⟩
    ·exact .inr ⟨by kernel_rfl, by kernel_rfl, Step.call0 (g := 107) (caps := []) (v := .pv (.bool x14)) (by kernel_rfl) (by kernel_rfl) (by kernel_rfl) (tab_hit (by kernel_rfl)) (by kernel_rfl)⟩)) (RunR.puts 1 [(68, .pv (.bool (c13 && x14)))] (by cases c13 <;> kernel_rfl) (RunR.dyn (Step.name (f := eBool) (e := (c13 && x14)) (c := c15) (by kernel_rfl) hc15) (RunR.puts 6 [(75, .pv (.bool (c15 && (decide (h1.f_Made ≤ h1.f_Until))))), (74, (bif c15 then (.pv (.bool (decide (h1.f_Made ≤ h1.f_Until)))) else (.tup []))), (73, (bif c15 then (.pv (.int .i32 h1.f_Until)) else (.tup []))), (72, (bif c15 then (.ptr (.loc 1 0) 6) else (.tup []))), (71, (bif c15 then (.pv (.int .i32 h1.f_Made)) else (.tup []))), (70, (bif c15 then (.ptr (.loc 1 0) 5) else (.tup [])))] (by cases c15 <;> kernel_rfl) (RunR.all (by kernel_rfl))))))))))))))) ?_
 refine W.keep rfl ?_
 cases h
 exact W.ret ((fin_ret (by kernel_rfl)))
def phold_Check_1r0 : List GOp := [⟨(some 1), none, .box (.tmp 0)⟩, ⟨(some 2), none, .mov (.cst (.bool false))⟩]
def phold_Check_1r1 : List GOp := [⟨(some 3), none, .load true 9 (.tmp 1)⟩, ⟨(some 4), none, .call 0 0 (.cst (.fn 84)) [(.tmp 3)] [] []⟩, ⟨(some 5), none, .un .not (.tmp 4)⟩, ⟨(some 2), none, .mov (.tmp 5)⟩]
def phold_Check_1b : AC := (.seq (.ops phold_Check_1r0) (.seq (.ops phold_Check_1r1) (.keep [] [(2, false)] [] [.loc 1 0] [] .ret)))
def phold_Check_1 : Fd := ⟨1, [.tmp 2], [], phold_Check_1b⟩
theorem phold_Check_1_ag : agreeF Tryz.prog Tryz.f83 phold_Check_1 = true := by kernel_rfl
theorem hold_Check_1_ok {h1 : T_api_Hold} {r : Bool} (h : hold_Check_1 h1 = some r) : Contract Tryz.prog 83 [.pv (T_api_Hold.pv h1)] [] ⟨.pv (.bool r), [], []⟩ := by
 refine contract_fin hm Tryz.func83 phold_Check_1_ag (by kernel_rfl) ?_
 unfold hold_Check_1 at h
 refine W.seqOps (RunR.all (by kernel_rfl)) ?_
 replace h := bindS h
 obtain ⟨x2, hx2, h⟩ := h
 refine W.seqOps (RunR.stat 1 (by kernel_rfl) (RunR.cons (tab_cons (on := true) (fun _ => hold_right_ok hx2) tab_nil) (Step.call0 (g := 84) (caps := []) (v := .pv (.bool x2)) (by kernel_rfl) (by kernel_rfl) (by kernel_rfl) (tab_hit (by kernel_rfl)) (by kernel_rfl)) (RunR.all (by kernel_rfl)))) ?_
 refine W.keep rfl ?_
 cases h
 exact W.ret ((fin_ret (by kernel_rfl)))
def pslices_IndexFunc_Hold_Holdr0 : List GOp := [⟨(some 4), none, .mov (.cst (.int .i64 0))⟩]
def pslices_IndexFunc_Hold_Holdr1 : List GOp := [⟨(some 6), none, .mov (.tmp 0)⟩, ⟨(some 7), none, .len false (.tmp 6)⟩, ⟨(some 8), none, .mov (.cst (.int .i64 0))⟩]
def pslices_IndexFunc_Hold_Holdr2 : List GOp := [⟨(some 9), none, .bin false .lss (.tmp 8) (.tmp 7)⟩]
def pslices_IndexFunc_Hold_Holdr3 : List GOp := [⟨(some 10), none, .mov (.tmp 8)⟩, ⟨(some 5), none, .mov (.tmp 10)⟩]
def pslices_IndexFunc_Hold_Holdr4 : List GOp := [⟨(some 11), none, .mov (.tmp 1)⟩, ⟨(some 12), none, .mov (.tmp 0)⟩, ⟨(some 13), none, .mov (.tmp 5)⟩, ⟨(some 14), none, .idx 9 (.tmp 12) (.tmp 13)⟩, ⟨(some 15), none, .load true 9 (.tmp 14)⟩, ⟨(some 16), none, .call 0 0 (.tmp 11) [(.tmp 15)] [] []⟩]
def pslices_IndexFunc_Hold_Holdr5 : List GOp := [⟨(some 17), none, .mov (.tmp 5)⟩, ⟨(some 4), none, .mov (.tmp 17)⟩]
def pslices_IndexFunc_Hold_Holdr6 : List GOp := [⟨(some 18), none, .bin false .add (.tmp 8) (.cst (.int .i64 1))⟩, ⟨(some 8), none, .mov (.tmp 18)⟩]
def pslices_IndexFunc_Hold_Holdl7 : AC := (.keep [] [(0, false), (1, false), (7, false), (8, false)] [] [] [] (.seq (.ops pslices_IndexFunc_Hold_Holdr2) (.seq (.cond (.tmp 9) .skip (.exit 0)) (.seq (.pass 1 (.seq (.ops pslices_IndexFunc_Hold_Holdr3) (.seq (.ops pslices_IndexFunc_Hold_Holdr4) (.cond (.tmp 16) (.seq (.ops pslices_IndexFunc_Hold_Holdr5) (.keep [] [(4, false)] [] [] [] .ret)) .skip)))) (.ops pslices_IndexFunc_Hold_Holdr6)))))
def pslices_IndexFunc_Hold_Holdr8 : List GOp := [⟨(some 4), none, .mov (.cst (.int .i64 (-1)))⟩]
def pslices_IndexFunc_Hold_Holdb : AC := (.seq (.ops pslices_IndexFunc_Hold_Holdr0) (.seq (.seq (.ops pslices_IndexFunc_Hold_Holdr1) (.block 0 (.loop [0, 1, 7, 8] [] pslices_IndexFunc_Hold_Holdl7))) (.seq (.keep [] [] [] [] [] (.ops pslices_IndexFunc_Hold_Holdr8)) (.keep [] [(4, false)] [] [] [] .ret))))
def pslices_IndexFunc_Hold_Hold : Fd := ⟨2, [.tmp 4], [], pslices_IndexFunc_Hold_Holdb⟩
theorem pslices_IndexFunc_Hold_Hold_ag : agreeF Tryz.prog Tryz.f50 pslices_IndexFunc_Hold_Hold = true := by kernel_rfl
theorem slices_IndexFunc_Hold_Hold_ok {s1 : List T_api_Hold} {r : Int} (h : slices_IndexFunc_Hold_Hold s1 = some r) : Contract Tryz.prog 50 [.pv (.slice (List.map T_api_Hold.pv s1)), .pv (.fn 83)] [] ⟨.pv (.int .i64 r), [], []⟩ := by
 refine contract_fin hm Tryz.func50 pslices_IndexFunc_Hold_Hold_ag (by kernel_rfl) ?_
 unfold slices_IndexFunc_Hold_Hold at h
 refine W.seqOps (RunR.all (by kernel_rfl)) ?_
 refine W.assoc ?_
 refine W.seqOps (RunR.stat 1 (by kernel_rfl) (RunR.dyn (Step.lenT (f := T_api_Hold.pv) (l := s1) (by kernel_rfl)) (RunR.all (by kernel_rfl)))) ?_
 replace h := bindS h
 obtain ⟨j2, hj2, h⟩ := h
 refine W.joinOut (j := j2) (o := r) (fun p σ => σ.tidy [] [] [] [] [] = ⟨[], []⟩) ?_ (fun p σj2 hp hsj2 => ?_) (fun p hp => ?_)
 ·refine W.blockLoopO (fun q σ => ((σ.forget [0, 1, 7, 8]).killAll []).tidy [] [(0, false), (1, false), (7, false), (8, false)] [] [] [] = ⟨[(0, .pv (.slice (List.map T_api_Hold.pv s1))), (1, .pv (.fn 83)), (7, .pv (.int .i64 (s1.length : Int))), (8, .pv (.int .i64 q))], []⟩) hj2 ?_ ?_
  ·show _ = _
   kernel_rfl
  ·intro x3 σj2 oj2 hJj2 h
   refine W.keep hJj2 ?_
   refine W.seqOps (RunR.all (by kernel_rfl)) ?_
   refine W.seqCond (t := decide (x3 < (s1.length : Int))) (by kernel_rfl) h (fun hc h' => ?_) (fun hc h' => ?_)
   ·replace h := h'
    refine W.seqSkip ?_
    refine W.seqPass ?_
    refine W.assoc ?_
    refine W.seqOps (RunR.all (by kernel_rfl)) ?_
    refine W.assoc ?_
    replace h := bindS h
    obtain ⟨x4, hx4, h⟩ := h
    replace h := bindS h
    obtain ⟨x5, hx5, h⟩ := h
    refine W.seqOps (RunR.stat 3 (by kernel_rfl) (RunR.dyn (Step.idxT (f := T_api_Hold.pv) (l := s1) (n := x3) (e := x4) (k := .i64) (by kernel_rfl) (by kernel_rfl) hx4 (by kernel_rfl)) (RunR.stat 1 (by kernel_rfl) (RunR.cons (tab_cons (on := true) (fun _ => hold_Check_1_ok hx5) tab_nil) (Step.call0 (g := 83) (caps := []) (v := .pv (.bool x5)) (by kernel_rfl) (by kernel_rfl) (by kernel_rfl) (tab_hit (by kernel_rfl)) (by kernel_rfl)) ((.nil _)))))) ?_
    refine W.seqCond (t := x5) (by kernel_rfl) h (fun hc h' => ?_) (fun hc h' => ?_)
    ·replace h := h'
     refine W.assoc ?_
     refine W.seqOps (RunR.all (by kernel_rfl)) ?_
     refine W.seqKeep rfl ?_
     cases h
     exact W.seqRet ((outw_out ret_ne (bout_o ret_ne ret_ne' (fun e => by subst e; exact (fin_ret (by kernel_rfl))))))
    ·replace h := h'
     refine W.seqSkip ?_
     refine W.ops (RunR.all (by kernel_rfl)) ?_
     cases h
     exact (outw_in (by (show _ = _); kernel_rfl))
   ·replace h := h'
    cases h
    exact W.seqExit ((outw_out exit_ne (bout_x (by (show _ = _); kernel_rfl))))
 ·subst hp
  obtain ⟨⟩ := p
  refine W.seqKeep hsj2 ?_
  refine W.seqOps (RunR.all (by kernel_rfl)) ?_
  refine W.keep rfl ?_
  cases h
  exact W.ret ((fin_ret (by kernel_rfl)))
 ·subst hp
  exact Option.some.inj h
def pslices_ContainsFunc_Hold_Holdr0 : List GOp := [⟨(some 4), none, .mov (.cst (.bool false))⟩]
def pslices_ContainsFunc_Hold_Holdr1 : List GOp := [⟨(some 5), none, .mov (.tmp 0)⟩, ⟨(some 6), none, .mov (.tmp 1)⟩, ⟨(some 7), none, .call 0 0 (.cst (.fn 50)) [(.tmp 5), (.tmp 6)] [] []⟩, ⟨(some 8), none, .bin false .geq (.tmp 7) (.cst (.int .i64 0))⟩, ⟨(some 4), none, .mov (.tmp 8)⟩]
def pslices_ContainsFunc_Hold_Holdb : AC := (.seq (.ops pslices_ContainsFunc_Hold_Holdr0) (.seq (.ops pslices_ContainsFunc_Hold_Holdr1) (.keep [] [(4, false)] [] [] [] .ret)))
def pslices_ContainsFunc_Hold_Hold : Fd := ⟨2, [.tmp 4], [], pslices_ContainsFunc_Hold_Holdb⟩
theorem pslices_ContainsFunc_Hold_Hold_ag : agreeF Tryz.prog Tryz.f85 pslices_ContainsFunc_Hold_Hold = true := by kernel_rfl
theorem slices_ContainsFunc_Hold_Hold_ok {s1 : List T_api_Hold} {r : Bool} (h : slices_ContainsFunc_Hold_Hold s1 = some r) : Contract Tryz.prog 85 [.pv (.slice (List.map T_api_Hold.pv s1)), .pv (.fn 83)] [] ⟨.pv (.bool r), [], []⟩ := by
 refine contract_fin hm Tryz.func85 pslices_ContainsFunc_Hold_Hold_ag (by kernel_rfl) ?_
 unfold slices_ContainsFunc_Hold_Hold at h
 refine W.seqOps (RunR.all (by kernel_rfl)) ?_
 replace h := bindS h
 obtain ⟨x2, hx2, h⟩ := h
 refine W.seqOps (RunR.stat 2 (by kernel_rfl) (RunR.cons (tab_cons (on := true) (fun _ => slices_IndexFunc_Hold_Hold_ok hx2) tab_nil) (Step.call0 (g := 50) (caps := []) (v := .pv (.int .i64 x2)) (by kernel_rfl) (by kernel_rfl) (by kernel_rfl) (tab_hit (by kernel_rfl)) (by kernel_rfl)) (RunR.all (by kernel_rfl)))) ?_
 refine W.keep rfl ?_
 cases h
 exact W.ret ((fin_ret (by kernel_rfl)))
def phold_Checkr0 : List GOp := [⟨(some 2), none, .mov (.cst (.int .i64 0))⟩]
def phold_Checkr1 : List GOp := [⟨(some 3), none, .mov (.cst (.fn 83))⟩]
def phold_Checkr2 : List GOp := [⟨(some 5), none, .mov (.tmp 0)⟩, ⟨(some 6), none, .mov (.tmp 3)⟩, ⟨(some 7), none, .call 0 0 (.cst (.fn 85)) [(.tmp 5), (.tmp 6)] [] []⟩]
def phold_Checkr3 : List GOp := [⟨(some 2), none, .mov (.cst (.int .i64 1))⟩]
def phold_Checkr4 : List GOp := [⟨(some 4), none, .mov (.cst (.int .i64 1))⟩]
def phold_Checkr5 : List GOp := [⟨(some 8), none, .mov (.tmp 4)⟩, ⟨(some 9), none, .mov (.tmp 0)⟩, ⟨(some 10), none, .len false (.tmp 9)⟩, ⟨(some 11), none, .bin false .lss (.tmp 8) (.tmp 10)⟩]
def phold_Checkr6 : List GOp := [⟨(some 14), none, .mov (.tmp 0)⟩, ⟨(some 15), none, .mov (.tmp 4)⟩, ⟨(some 16), none, .bin false .sub (.tmp 15) (.cst (.int .i64 1))⟩, ⟨(some 17), none, .idx 9 (.tmp 14) (.tmp 16)⟩, ⟨(some 18), none, .fld 0 (.tmp 17)⟩, ⟨(some 19), none, .load false 1 (.tmp 18)⟩, ⟨(some 20), none, .mov (.tmp 0)⟩, ⟨(some 21), none, .mov (.tmp 4)⟩, ⟨(some 22), none, .idx 9 (.tmp 20) (.tmp 21)⟩, ⟨(some 23), none, .fld 0 (.tmp 22)⟩, ⟨(some 24), none, .load false 1 (.tmp 23)⟩, ⟨(some 25), none, .bin false .geq (.tmp 19) (.tmp 24)⟩]
def phold_Checkr7 : List GOp := [⟨(some 2), none, .mov (.cst (.int .i64 20))⟩]
def phold_Checkr8 : List GOp := [⟨(some 12), none, .mov (.tmp 4)⟩, ⟨(some 13), none, .bin false .add (.tmp 12) (.cst (.int .i64 1))⟩, ⟨(some 4), none, .mov (.tmp 13)⟩]
def phold_Checkl9 : AC := (.keep [] [(0, false), (4, false)] [] [] [] (.seq (.seq (.ops phold_Checkr5) (.cond (.tmp 11) .skip (.exit 0))) (.seq (.pass 1 (.seq (.draw [] phold_Checkr6) (.cond (.tmp 25) (.seq (.ops phold_Checkr7) (.keep [] [(2, false)] [] [] [] .ret)) .skip))) (.ops phold_Checkr8))))
def phold_Checkr10 : List GOp := [⟨(some 26), none, .mov (.tmp 0)⟩, ⟨(some 27), none, .len false (.tmp 26)⟩, ⟨(some 28), none, .bin false .gtr (.tmp 27) (.cst (.int .i64 200))⟩]
def phold_Checkr11 : List GOp := [⟨(some 2), none, .mov (.cst (.int .i64 6))⟩]
def phold_Checkr12 : List GOp := [⟨(some 2), none, .mov (.cst (.int .i64 0))⟩]
def phold_Checkb : AC := (.seq (.ops phold_Checkr0) (.seq (.ops phold_Checkr1) (.seq (.seq (.ops phold_Checkr2) (.cond (.tmp 7) (.seq (.ops phold_Checkr3) (.keep [] [(2, false)] [] [] [] .ret)) .skip)) (.seq (.seq (.ops phold_Checkr4) (.block 0 (.loop [0, 4] [] phold_Checkl9))) (.seq (.seq (.keep [] [(0, false)] [] [] [] (.ops phold_Checkr10)) (.cond (.tmp 28) (.seq (.ops phold_Checkr11) (.keep [] [(2, false)] [] [] [] .ret)) .skip)) (.seq (.ops phold_Checkr12) (.keep [] [(2, false)] [] [] [] .ret)))))))
def phold_Check : Fd := ⟨1, [.tmp 2], [], phold_Checkb⟩
theorem phold_Check_ag : agreeF Tryz.prog Tryz.f35 phold_Check = true := by kernel_rfl
theorem hold_Check_ok {l1 : List T_api_Hold} {r : Int} (h : hold_Check l1 = some r) : Contract Tryz.prog 35 [.pv (.slice (List.map T_api_Hold.pv l1))] [] ⟨.pv (.int .i64 r), [], []⟩ := by
 refine contract_fin hm Tryz.func35 phold_Check_ag (by kernel_rfl) ?_
 unfold hold_Check at h
 refine W.seqOps (RunR.all (by kernel_rfl)) ?_
 refine W.seqOps (RunR.all (by kernel_rfl)) ?_
 refine W.assoc ?_
 replace h := bindS h
 obtain ⟨x2, hx2, h⟩ := h
 refine W.seqOps (RunR.stat 2 (by kernel_rfl) (RunR.cons (tab_cons (on := true) (fun _ => slices_ContainsFunc_Hold_Hold_ok hx2) tab_nil) (Step.call0 (g := 85) (caps := []) (v := .pv (.bool x2)) (by kernel_rfl) (by kernel_rfl) (by kernel_rfl) (tab_hit (by kernel_rfl)) (by kernel_rfl)) ((.nil _)))) ?_
 refine W.seqCond (t := x2) (by kernel_rfl) h (fun hc h' => ?_) (fun hc h' => ?_)
 ·replace h := h'
  refine W.assoc ?_
  refine W.seqOps (RunR.all (by kernel_rfl)) ?_
  refine W.seqKeep rfl ?_
  cases h
  exact W.seqRet ((fin_ret (by kernel_rfl)))
 ·replace h := h'
  refine W.seqSkip ?_
  refine W.assoc ?_
  refine W.seqOps (RunR.all (by kernel_rfl)) ?_
  replace h := bindS h
  obtain ⟨j3, hj3, h⟩ := h
  refine W.joinOut (j := j3) (o := r) (fun p σ => σ.tidy [] [(0, false)] [] [] [] = ⟨[(0, .pv (.slice (List.map T_api_Hold.pv l1)))], []⟩) ?_ (fun p σj3 hp hsj3 => ?_) (fun p hp => ?_)
  ·refine W.blockLoopO (fun q σ => ((σ.forget [0, 4]).killAll []).tidy [] [(0, false), (4, false)] [] [] [] = ⟨[(0, .pv (.slice (List.map T_api_Hold.pv l1))), (4, .pv (.int .i64 q))], []⟩) hj3 ?_ ?_
   ·show _ = _
    kernel_rfl
   ·intro i4 σj3 oj3 hJj3 h
    refine W.keep hJj3 ?_
    refine W.assoc ?_
    refine W.seqOps (RunR.stat 2 (by kernel_rfl) (RunR.dyn (Step.lenT (f := T_api_Hold.pv) (l := l1) (by kernel_rfl)) (RunR.all (by kernel_rfl)))) ?_
    refine W.seqCond (t := decide (i4 < (l1.length : Int))) (by kernel_rfl) h (fun hc h' => ?_) (fun hc h' => ?_)
    ·replace h := h'
     refine W.seqSkip ?_
     refine W.seqPass ?_
     refine W.assoc ?_
     replace h := bindS h
     obtain ⟨x5, hx5, h⟩ := h
     replace h := bindS h
     obtain ⟨x6, hx6, h⟩ := h
     refine W.seqDraw tab_nil (Run.stat 3 (by kernel_rfl) (Run.dyn (Step.idxT (f := T_api_Hold.pv) (l := l1) (n := IntKind.wrap .i64 (i4 - 1)) (e := x5) (k := .i64) (by kernel_rfl) (by kernel_rfl) hx5 (by kernel_rfl)) (Run.stat 4 (by kernel_rfl) (Run.dyn (Step.idxT (f := T_api_Hold.pv) (l := l1) (n := i4) (e := x6) (k := .i64) (by kernel_rfl) (by kernel_rfl) hx6 (by kernel_rfl)) (Run.all (by kernel_rfl)))))) ?_
     refine W.seqCond (t := decide (x5.f_ID ≥ x6.f_ID)) (by kernel_rfl) h (fun hc h' => ?_) (fun hc h' => ?_)
     ·replace h := h'
      refine W.assoc ?_
      refine W.seqOps (RunR.all (by kernel_rfl)) ?_
      refine W.seqKeep rfl ?_
      cases h
      exact W.seqRet ((outw_out ret_ne (bout_o ret_ne ret_ne' (fun e => by subst e; exact (fin_ret (by kernel_rfl))))))
     ·replace h := h'
      refine W.seqSkip ?_
      refine W.ops (RunR.all (by kernel_rfl)) ?_
      cases h
      exact (outw_in (by (show _ = _); kernel_rfl))
    ·replace h := h'
     cases h
     exact W.seqExit ((outw_out exit_ne (bout_x (by (show _ = _); kernel_rfl))))
  ·subst hp
   obtain ⟨⟩ := p
   refine W.assoc ?_
   refine W.seqKeep hsj3 ?_
   refine W.seqOps (RunR.stat 1 (by kernel_rfl) (RunR.dyn (Step.lenT (f := T_api_Hold.pv) (l := l1) (by kernel_rfl)) (RunR.all (by kernel_rfl)))) ?_
   refine W.seqCond (t := decide ((l1.length : Int) > 200)) (by kernel_rfl) h (fun hc h' => ?_) (fun hc h' => ?_)
   ·replace h := h'
    refine W.assoc ?_
    refine W.seqOps (RunR.all (by kernel_rfl)) ?_
    refine W.seqKeep rfl ?_
    cases h
    exact W.seqRet ((fin_ret (by kernel_rfl)))
   ·replace h := h'
    refine W.seqSkip ?_
    refine W.seqOps (RunR.all (by kernel_rfl)) ?_
    refine W.keep rfl ?_
    cases h
    exact W.ret ((fin_ret (by kernel_rfl)))
  ·subst hp
   exact Option.some.inj h
def pavail_Rightr0 : List GOp := [⟨(some 1), none, .box (.tmp 0)⟩, ⟨(some 2), none, .mov (.cst (.bool false))⟩]
def pavail_Rightr1 : List GOp := [⟨(some 5), none, .fld 4 (.tmp 1)⟩, ⟨(some 6), none, .load false 1 (.tmp 5)⟩, ⟨(some 7), none, .len false (.tmp 6)⟩, ⟨(some 8), none, .mov (.cst (.int .i64 0))⟩]
def pavail_Rightr2 : List GOp := [⟨(some 9), none, .bin false .lss (.tmp 8) (.tmp 7)⟩]
def pavail_Rightr3 : List GOp := [⟨(some 10), none, .mov (.tmp 8)⟩, ⟨(some 11), none, .idx 2 (.tmp 6) (.tmp 8)⟩, ⟨(some 12), none, .load true 2 (.tmp 11)⟩, ⟨(some 4), none, .alloc [.pv (.int .i64 0), .pv (.int .i64 0)]⟩, ⟨(some 3), none, .mov (.tmp 10)⟩, ⟨none, none, .store 2 (.tmp 4) (.tmp 12)⟩]
def pavail_Rightr4 : List GOp := [⟨(some 13), none, .fld 0 (.tmp 4)⟩, ⟨(some 14), none, .load false 1 (.tmp 13)⟩, ⟨(some 15), none, .call 0 0 (.cst (.fn 33)) [(.tmp 14), (.cst (.int .i64 1)), (.cst (.int .i64 999))] [] []⟩, ⟨(some 16), none, .un .not (.tmp 15)⟩, ⟨(some 17), none, .mov (.tmp 16)⟩, ⟨(some 18), (some (17, false)), .fld 1 (.tmp 4)⟩, ⟨(some 19), (some (17, false)), .load false 1 (.tmp 18)⟩, ⟨(some 20), (some (17, false)), .call 0 0 (.cst (.fn 32)) [(.tmp 19), (.cst (.int .i64 0)), (.cst (.int .i64 1000000000000000))] [] []⟩, ⟨(some 21), (some (17, false)), .un .not (.tmp 20)⟩, ⟨(some 22), none, .pick (.tmp 17) (.cst (.bool true)) (.tmp 21)⟩, ⟨(some 23), none, .mov (.tmp 22)⟩, ⟨(some 24), (some (23, false)), .mov (.tmp 3)⟩, ⟨(some 25), (some (23, false)), .bin false .gtr (.tmp 24) (.cst (.int .i64 0))⟩, ⟨(some 26), (some (23, false)), .mov (.tmp 25)⟩, ⟨(some 27), (some (26, true)), .fld 4 (.tmp 1)⟩, ⟨(some 28), (some (26, true)), .load false 1 (.tmp 27)⟩, ⟨(some 29), (some (26, true)), .mov (.tmp 3)⟩, ⟨(some 30), (some (26, true)), .bin false .sub (.tmp 29) (.cst (.int .i64 1))⟩, ⟨(some 31), (some (26, true)), .idx 2 (.tmp 28) (.tmp 30)⟩, ⟨(some 32), (some (26, true)), .fld 0 (.tmp 31)⟩, ⟨(some 33), (some (26, true)), .load false 1 (.tmp 32)⟩, ⟨(some 34), (some (26, true)), .fld 0 (.tmp 4)⟩, ⟨(some 35), (some (26, true)), .load false 1 (.tmp 34)⟩, ⟨(some 36), (some (26, true)), .bin false .geq (.tmp 33) (.tmp 35)⟩, ⟨(some 37), (some (23, false)), .pick (.tmp 26) (.tmp 36) (.cst (.bool false))⟩, ⟨(some 38), none, .pick (.tmp 23) (.cst (.bool true)) (.tmp 37)⟩]
def pavail_Rightr5 : List GOp := [⟨(some 2), none, .mov (.cst (.bool false))⟩]
def pavail_Rightr6 : List GOp := [⟨(some 39), none, .bin false .add (.tmp 8) (.cst (.int .i64 1))⟩, ⟨(some 8), none, .mov (.tmp 39)⟩]
def pavail_Rightl7 : AC := (.keep [] [(1, false), (6, false), (7, false), (8, false)] [(.loc 1 0, false)] [.loc 4 0] [] (.seq (.ops pavail_Rightr2) (.seq (.cond (.tmp 9) .skip (.exit 0)) (.seq (.pass 1 (.seq (.ops pavail_Rightr3) (.seq (.draw [] pavail_Rightr4) (.cond (.tmp 38) (.seq (.ops pavail_Rightr5) (.keep [] [(2, false)] [] [.loc 1 0, .loc 4 0] [] .ret)) .skip)))) (.ops pavail_Rightr6)))))
def pavail_Rightr8 : List GOp := [⟨(some 40), none, .fld 0 (.tmp 1)⟩, ⟨(some 41), none, .load true 2 (.tmp 40)⟩, ⟨(some 42), none, .call 0 0 (.cst (.fn 34)) [(.tmp 41)] [] []⟩, ⟨(some 43), none, .mov (.tmp 42)⟩, ⟨(some 44), (some (43, true)), .fld 2 (.tmp 1)⟩, ⟨(some 45), (some (43, true)), .load false 1 (.tmp 44)⟩, ⟨(some 46), (some (43, true)), .len false (.tmp 45)⟩, ⟨(some 47), (some (43, true)), .bin false .leq (.tmp 46) (.cst (.int .i64 2000))⟩, ⟨(some 48), none, .pick (.tmp 43) (.tmp 47) (.cst (.bool false))⟩, ⟨(some 49), none, .mov (.tmp 48)⟩, ⟨(some 50), (some (49, true)), .fld 3 (.tmp 1)⟩, ⟨(some 51), (some (49, true)), .load false 1 (.tmp 50)⟩, ⟨(some 52), (some (49, true)), .call 0 0 (.cst (.fn 35)) [(.tmp 51)] [] []⟩, ⟨(some 53), (some (49, true)), .bin false .eql (.tmp 52) (.cst (.int .i64 0))⟩, ⟨(some 54), none, .pick (.tmp 49) (.tmp 53) (.cst (.bool false))⟩, ⟨(some 55), none, .mov (.tmp 54)⟩, ⟨(some 56), (some (55, true)), .fld 4 (.tmp 1)⟩, ⟨(some 57), (some (55, true)), .load false 1 (.tmp 56)⟩, ⟨(some 58), (some (55, true)), .len false (.tmp 57)⟩, ⟨(some 59), (some (55, true)), .bin false .leq (.tmp 58) (.cst (.int .i64 200))⟩, ⟨(some 60), none, .pick (.tmp 55) (.tmp 59) (.cst (.bool false))⟩, ⟨(some 2), none, .mov (.tmp 60)⟩]
def pavail_Rightb : AC := (.seq (.ops pavail_Rightr0) (.seq (.seq (.ops pavail_Rightr1) (.block 0 (.loop [1, 6, 7, 8] [] pavail_Rightl7))) (.seq (.keep [] [(1, false)] [(.loc 1 0, false)] [] [] (.ops pavail_Rightr8)) (.keep [] [(2, false)] [] [.loc 1 0, .loc 4 0] [] .ret))))
def pavail_Right : Fd := ⟨1, [.tmp 2], [], pavail_Rightb⟩
theorem pavail_Right_ag : agreeF Tryz.prog Tryz.f11 pavail_Right = true := by kernel_rfl
theorem avail_Right_ok {t1 : T_api_Till} {r : Bool} (h : avail_Right t1 = some r) : Contract Tryz.prog 11 [.pv (T_api_Till.pv t1)] [] ⟨.pv (.bool r), [], []⟩ := by
 refine contract_fin hm Tryz.func11 pavail_Right_ag (by kernel_rfl) ?_
 unfold avail_Right at h
 refine W.seqOps (RunR.all (by kernel_rfl)) ?_
 refine W.assoc ?_
 refine W.seqOps (RunR.stat 2 (by kernel_rfl) (RunR.dyn (Step.lenT (f := T_api_Limit.pv) (l := t1.f_Limits) (by kernel_rfl)) (RunR.all (by kernel_rfl)))) ?_
 replace h := bindS h
 obtain ⟨j2, hj2, h⟩ := h
 refine W.joinOut (j := j2) (o := r) (fun p σ => σ.tidy [] [(1, false)] [(.loc 1 0, false)] [] [] = ⟨[(1, .ptr (.loc 1 0) 0)], [(.loc 1 0, .box [.pv (.slice (List.map T_api_Customer.pv t1.f_Chart.f_Customers)), .pv (.slice (List.map T_api_Record.pv t1.f_Chart.f_Records)), .pv (.slice (List.map T_api_Posting.pv t1.f_L)), .pv (.slice (List.map T_api_Hold.pv t1.f_Holds)), .pv (.slice (List.map T_api_Limit.pv t1.f_Limits))])]⟩) ?_ (fun p σj2 hp hsj2 => ?_) (fun p hp => ?_)
 ·refine W.blockLoopO (fun q σ => ((σ.forget [1, 6, 7, 8]).killAll []).tidy [] [(1, false), (6, false), (7, false), (8, false)] [(.loc 1 0, false)] [.loc 4 0] [] = ⟨[(1, .ptr (.loc 1 0) 0), (6, .pv (.slice (List.map T_api_Limit.pv t1.f_Limits))), (7, .pv (.int .i64 (t1.f_Limits.length : Int))), (8, .pv (.int .i64 q))], [(.loc 1 0, .box [.pv (.slice (List.map T_api_Customer.pv t1.f_Chart.f_Customers)), .pv (.slice (List.map T_api_Record.pv t1.f_Chart.f_Records)), .pv (.slice (List.map T_api_Posting.pv t1.f_L)), .pv (.slice (List.map T_api_Hold.pv t1.f_Holds)), .pv (.slice (List.map T_api_Limit.pv t1.f_Limits))])]⟩) hj2 ?_ ?_
  ·show _ = _
   kernel_rfl
  ·intro x3 σj2 oj2 hJj2 h
   refine W.keep hJj2 ?_
   refine W.seqOps (RunR.all (by kernel_rfl)) ?_
   refine W.seqCond (t := decide (x3 < (t1.f_Limits.length : Int))) (by kernel_rfl) h (fun hc h' => ?_) (fun hc h' => ?_)
   ·replace h := h'
    refine W.seqSkip ?_
    refine W.seqPass ?_
    refine W.assoc ?_
    replace h := bindS h
    obtain ⟨x4, hx4, h⟩ := h
    refine W.seqOps (RunR.stat 1 (by kernel_rfl) (RunR.dyn (Step.idxT (f := T_api_Limit.pv) (l := t1.f_Limits) (n := x3) (e := x4) (k := .i64) (by kernel_rfl) (by kernel_rfl) hx4 (by kernel_rfl)) (RunR.all (by kernel_rfl)))) ?_
    refine W.assoc ?_
    replace h := bindS h
    obtain ⟨x5, hx5, h⟩ := h
    replace h := bindS h
    obtain ⟨c6, hc6, h⟩ := h
    replace h := bindS h
    obtain ⟨x7, hx7, h⟩ := h
    replace h := bindS h
    obtain ⟨c8, hc8, h⟩ := h
    replace h := bindS h
    obtain ⟨c9, hc9, h⟩ := h
    replace h := bindS h
    obtain ⟨x10, hx10, h⟩ := h
    refine W.seqDraw (tab_cons (on := true) (fun _ => avail_in_Account_ok hx5) (tab_cons (on := (!c6)) (fun hg => avail_in_int64_ok (gdO_at hg hx7)) tab_nil)) (Run.stat 2 (by kernel_rfl) (Run.dyn (Step.call0 (g := 33) (caps := []) (v := .pv (.bool x5)) (by kernel_rfl) (by kernel_rfl) (by kernel_rfl) (tab_hit (by kernel_rfl)) (by kernel_rfl)) (Run.stat 1 (by kernel_rfl) (Run.dyn (Step.name (f := eBool) (e := !x5) (c := c6) (by kernel_rfl) hc6) (Run.puts 2 [(19, (bif !c6 then (.pv (.int .i64 x4.f_Minor)) else (.tup []))), (18, (bif !c6 then (.ptr (.loc 4 0) 1) else (.tup [])))] (by cases c6 <;> kernel_rfl) (Run.dyn (Step.gdG (!c6) (by kernel_rfl) (by
       cases c6
       ·exact .inr ⟨by kernel_rfl, by kernel_rfl, Step.call0 (g := 32) (caps := []) (v := .pv (.bool x7)) (by kernel_rfl) (by kernel_rfl) (by kernel_rfl) (tab_next rfl (tab_hit (by kernel_rfl))) (by kernel_rfl)⟩
       ·exact .inl ⟨by kernel_rfl, by kernel_rfl⟩)) (Run.puts 2 [(22, .pv (.bool (c6 || (!x7)))), (21, (bif !c6 then (.pv (.bool (!x7))) else (.tup [])))] (by cases c6 <;> kernel_rfl) (Run.dyn (Step.name (f := eBool) (e := (c6 || (!x7))) (c := c8) (by kernel_rfl) hc8) (Run.puts 2 [(25, (bif !c8 then (.pv (.bool (decide (x3 > 0)))) else (.tup []))), (24, (bif !c8 then (.pv (.int .i64 x3)) else (.tup [])))] (by cases c8 <;> kernel_rfl) (Run.dyn (Step.gdG (!c8) (by kernel_rfl) (by
       cases c8
       ·exact .inr ⟨by kernel_rfl, by kernel_rfl, Step.name (f := eBool) (e := decide (x3 > 0)) (c := c9) (by kernel_rfl) hc9⟩
       ·exact .inl ⟨by kernel_rfl, by kernel_rfl⟩)) (Run.puts 4 [(30, (bif ((!c8) && c9) then (.pv (.int .i64 (IntKind.wrap .i64 (x3 - 1)))) else (.tup []))), (29, (bif ((!c8) && c9) then (.pv (.int .i64 x3)) else (.tup []))), (28, (bif ((!c8) && c9) then (.pv (.slice (List.map T_api_Limit.pv t1.f_Limits))) else (.tup []))), (27, (bif ((!c8) && c9) then (.ptr (.loc 1 0) 4) else (.tup [])))] (by cases c8 <;> cases c9 <;> kernel_rfl) (Run.dyn (Step.gdG ((!c8) && c9) (by kernel_rfl) (by
       cases c8
       ·cases c9
        ·exact .inl ⟨by kernel_rfl, by kernel_rfl⟩
        ·exact .inr ⟨by kernel_rfl, by kernel_rfl, Step.idxT (f := T_api_Limit.pv) (l := t1.f_Limits) (n := IntKind.wrap .i64 (x3 - 1)) (e := x10) (k := .i64) (by kernel_rfl) (by kernel_rfl) hx10 (by kernel_rfl)⟩
       ·cases c9
        ·exact .inl ⟨by kernel_rfl, by kernel_rfl⟩
        ·exact .inl ⟨by kernel_rfl, by kernel_rfl⟩)) (Run.puts 7 [(38, .pv (.bool (c8 || (c9 && (decide (x10.f_Acc ≥ x4.f_Acc)))))), (37, (bif !c8 then (.pv (.bool (c9 && (decide (x10.f_Acc ≥ x4.f_Acc))))) else (.tup []))), (36, (bif ((!c8) && c9) then (.pv (.bool (decide (x10.f_Acc ≥ x4.f_Acc)))) else (.tup []))), (35, (bif ((!c8) && c9) then (.pv (.int .i64 x4.f_Acc)) else (.tup []))), (34, (bif ((!c8) && c9) then (.ptr (.loc 4 0) 0) else (.tup []))), (33, (bif ((!c8) && c9) then (.pv (.int .i64 x10.f_Acc)) else (.tup []))), (32, (bif ((!c8) && c9) then (.ipv (T_api_Limit.pv x10) 0) else (.tup [])))] (by cases c8 <;> cases c9 <;> kernel_rfl) ((Run.nil))))))))))))))) ?_
    refine W.seqCond (t := (c8 || (c9 && (decide (x10.f_Acc ≥ x4.f_Acc))))) (by kernel_rfl) h (fun hc h' => ?_) (fun hc h' => ?_)
    ·replace h := h'
     refine W.assoc ?_
     refine W.seqOps (RunR.all (by kernel_rfl)) ?_
     refine W.seqKeep rfl ?_
     cases h
     exact W.seqRet ((outw_out ret_ne (bout_o ret_ne ret_ne' (fun e => by subst e; exact (fin_ret (by kernel_rfl))))))
    ·replace h := h'
     refine W.seqSkip ?_
     refine W.ops (RunR.all (by kernel_rfl)) ?_
     cases h
     exact (outw_in (by (show _ = _); kernel_rfl))
   ·replace h := h'
    cases h
    exact W.seqExit ((outw_out exit_ne (bout_x (by (show _ = _); kernel_rfl))))
 ·subst hp
  obtain ⟨⟩ := p
  refine W.seqKeep hsj2 ?_
  replace h := bindS h
  obtain ⟨x11, hx11, h⟩ := h
  replace h := bindS h
  obtain ⟨c12, hc12, h⟩ := h
  replace h := bindS h
  obtain ⟨x13, hx13, h⟩ := h
  replace h := bindS h
  obtain ⟨c14, hc14, h⟩ := h
  refine W.seqOps (RunR.stat 2 (by kernel_rfl) (RunR.cons (tab_cons (on := true) (fun _ => chart_Right_ok hx11) tab_nil) (Step.call0 (g := 34) (caps := []) (v := .pv (.bool x11)) (by kernel_rfl) (by kernel_rfl) (by kernel_rfl) (tab_hit (by kernel_rfl)) (by kernel_rfl)) (RunR.stat 1 (by kernel_rfl) (RunR.puts 2 [(45, (bif x11 then (.pv (.slice (List.map T_api_Posting.pv t1.f_L))) else (.tup []))), (44, (bif x11 then (.ptr (.loc 1 0) 2) else (.tup [])))] (by cases x11 <;> kernel_rfl) (RunR.dyn (Step.gdG x11 (by kernel_rfl) (by
     cases x11
     ·exact .inl ⟨by kernel_rfl, by kernel_rfl⟩
     ·exact .inr ⟨by kernel_rfl, by kernel_rfl, Step.lenT (f := T_api_Posting.pv) (l := t1.f_L) (by kernel_rfl)⟩)) (RunR.puts 2 [(48, .pv (.bool (x11 && (decide ((t1.f_L.length : Int) ≤ 2000))))), (47, (bif x11 then (.pv (.bool (decide ((t1.f_L.length : Int) ≤ 2000)))) else (.tup [])))] (by cases x11 <;> kernel_rfl) (RunR.dyn (Step.name (f := eBool) (e := (x11 && (decide ((t1.f_L.length : Int) ≤ 2000)))) (c := c12) (by kernel_rfl) hc12) (RunR.puts 2 [(51, (bif c12 then (.pv (.slice (List.map T_api_Hold.pv t1.f_Holds))) else (.tup []))), (50, (bif c12 then (.ptr (.loc 1 0) 3) else (.tup [])))] (by cases c12 <;> kernel_rfl) (RunR.cons (tab_cons (on := c12) (fun hg => hold_Check_ok (gdO_at hg hx13)) tab_nil) (Step.gdG c12 (by kernel_rfl) (by
     cases c12
     ·exact .inl ⟨by kernel_rfl, by kernel_rfl⟩
     ·exact .inr ⟨by kernel_rfl, by kernel_rfl, Step.call0 (g := 35) (caps := []) (v := .pv (.int .i64 x13)) (by kernel_rfl) (by kernel_rfl) (by kernel_rfl) (tab_hit (by kernel_rfl)) (by kernel_rfl)⟩)) (RunR.puts 2 [(54, .pv (.bool (c12 && (x13 == 0)))), (53, (bif c12 then (.pv (.bool (x13 == 0))) else (.tup [])))] (by cases c12 <;> kernel_rfl) (RunR.dyn (Step.name (f := eBool) (e := (c12 && (x13 == 0))) (c := c14) (by kernel_rfl) hc14) (RunR.puts 2 [(57, (bif c14 then (.pv (.slice (List.map T_api_Limit.pv t1.f_Limits))) else (.tup []))), (56, (bif c14 then (.ptr (.loc 1 0) 4) else (.tup [])))] (by cases c14 <;> kernel_rfl) (RunR.dyn (Step.gdG c14 (by kernel_rfl) (by
     cases c14
     ·exact .inl ⟨by kernel_rfl, by kernel_rfl⟩
     ·exact .inr ⟨by kernel_rfl, by kernel_rfl, Step.lenT (f := T_api_Limit.pv) (l := t1.f_Limits) (by kernel_rfl)⟩)) (RunR.puts 2 [(60, .pv (.bool (c14 && (decide ((t1.f_Limits.length : Int) ≤ 200))))), (59, (bif c14 then (.pv (.bool (decide ((t1.f_Limits.length : Int) ≤ 200)))) else (.tup [])))] (by cases c14 <;> kernel_rfl) (RunR.all (by kernel_rfl)))))))))))))))) ?_
  refine W.keep rfl ?_
  cases h
  exact W.ret ((fin_ret (by kernel_rfl)))
 ·subst hp
  exact Option.some.inj h
def pcmp_isNaN_Accountr0 : List GOp := [⟨(some 2), none, .mov (.cst (.bool false))⟩]
def pcmp_isNaN_Accountr1 : List GOp := [⟨(some 3), none, .mov (.tmp 0)⟩, ⟨(some 4), none, .mov (.tmp 0)⟩, ⟨(some 5), none, .bin false .neq (.tmp 3) (.tmp 4)⟩, ⟨(some 2), none, .mov (.tmp 5)⟩]
def pcmp_isNaN_Accountb : AC := (.seq (.ops pcmp_isNaN_Accountr0) (.seq (.ops pcmp_isNaN_Accountr1) (.keep [] [(2, false)] [] [] [] .ret)))
def pcmp_isNaN_Account : Fd := ⟨1, [.tmp 2], [], pcmp_isNaN_Accountb⟩
theorem pcmp_isNaN_Account_ag : agreeF Tryz.prog Tryz.f148 pcmp_isNaN_Account = true := by kernel_rfl
theorem cmp_isNaN_Account_ok {x1 : Int} {r : Bool} (h : cmp_isNaN_Account x1 = some r) : Contract Tryz.prog 148 [.pv (.int .i64 x1)] [] ⟨.pv (.bool r), [], []⟩ := by
 refine contract_fin hm Tryz.func148 pcmp_isNaN_Account_ag (by kernel_rfl) ?_
 unfold cmp_isNaN_Account at h
 refine W.seqOps (RunR.all (by kernel_rfl)) ?_
 refine W.seqOps (RunR.all (by kernel_rfl)) ?_
 refine W.keep rfl ?_
 cases h
 exact W.ret ((fin_ret (by kernel_rfl)))
def pcmp_Compare_Accountr0 : List GOp := [⟨(some 4), none, .mov (.cst (.int .i64 0))⟩]
def pcmp_Compare_Accountr1 : List GOp := [⟨(some 7), none, .mov (.tmp 0)⟩, ⟨(some 8), none, .call 0 0 (.cst (.fn 148)) [(.tmp 7)] [] []⟩, ⟨(some 5), none, .mov (.tmp 8)⟩]
def pcmp_Compare_Accountr2 : List GOp := [⟨(some 9), none, .mov (.tmp 1)⟩, ⟨(some 10), none, .call 0 0 (.cst (.fn 148)) [(.tmp 9)] [] []⟩, ⟨(some 6), none, .mov (.tmp 10)⟩]
def pcmp_Compare_Accountr3 : List GOp := [⟨(some 11), none, .mov (.tmp 5)⟩]
def pcmp_Compare_Accountr4 : List GOp := [⟨(some 12), none, .mov (.tmp 6)⟩]
def pcmp_Compare_Accountr5 : List GOp := [⟨(some 4), none, .mov (.cst (.int .i64 0))⟩]
def pcmp_Compare_Accountr6 : List GOp := [⟨(some 4), none, .mov (.cst (.int .i64 (-1)))⟩]
def pcmp_Compare_Accountr7 : List GOp := [⟨(some 13), none, .mov (.tmp 6)⟩]
def pcmp_Compare_Accountr8 : List GOp := [⟨(some 4), none, .mov (.cst (.int .i64 1))⟩]
def pcmp_Compare_Accountr9 : List GOp := [⟨(some 14), none, .mov (.tmp 0)⟩, ⟨(some 15), none, .mov (.tmp 1)⟩, ⟨(some 16), none, .bin false .lss (.tmp 14) (.tmp 15)⟩]
def pcmp_Compare_Accountr10 : List GOp := [⟨(some 4), none, .mov (.cst (.int .i64 (-1)))⟩]
def pcmp_Compare_Accountr11 : List GOp := [⟨(some 17), none, .mov (.tmp 0)⟩, ⟨(some 18), none, .mov (.tmp 1)⟩, ⟨(some 19), none, .bin false .gtr (.tmp 17) (.tmp 18)⟩]
def pcmp_Compare_Accountr12 : List GOp := [⟨(some 4), none, .mov (.cst (.int .i64 1))⟩]
def pcmp_Compare_Accountr13 : List GOp := [⟨(some 4), none, .mov (.cst (.int .i64 0))⟩]
def pcmp_Compare_Accountb : AC := (.seq (.ops pcmp_Compare_Accountr0) (.seq (.ops pcmp_Compare_Accountr1) (.seq (.ops pcmp_Compare_Accountr2) (.seq (.seq (.ops pcmp_Compare_Accountr3) (.cond (.tmp 11) (.seq (.seq (.ops pcmp_Compare_Accountr4) (.cond (.tmp 12) (.seq (.ops pcmp_Compare_Accountr5) (.keep [] [(4, false)] [] [] [] .ret)) .skip)) (.seq (.ops pcmp_Compare_Accountr6) (.keep [] [(4, false)] [] [] [] .ret))) .skip)) (.seq (.seq (.ops pcmp_Compare_Accountr7) (.cond (.tmp 13) (.seq (.ops pcmp_Compare_Accountr8) (.keep [] [(4, false)] [] [] [] .ret)) .skip)) (.seq (.seq (.ops pcmp_Compare_Accountr9) (.cond (.tmp 16) (.seq (.ops pcmp_Compare_Accountr10) (.keep [] [(4, false)] [] [] [] .ret)) .skip)) (.seq (.seq (.ops pcmp_Compare_Accountr11) (.cond (.tmp 19) (.seq (.ops pcmp_Compare_Accountr12) (.keep [] [(4, false)] [] [] [] .ret)) .skip)) (.seq (.ops pcmp_Compare_Accountr13) (.keep [] [(4, false)] [] [] [] .ret)))))))))
def pcmp_Compare_Account : Fd := ⟨2, [.tmp 4], [], pcmp_Compare_Accountb⟩
theorem pcmp_Compare_Account_ag : agreeF Tryz.prog Tryz.f137 pcmp_Compare_Account = true := by kernel_rfl
theorem cmp_Compare_Account_ok {x1 : Int} {y2 : Int} {r : Int} (h : cmp_Compare_Account x1 y2 = some r) : Contract Tryz.prog 137 [.pv (.int .i64 x1), .pv (.int .i64 y2)] [] ⟨.pv (.int .i64 r), [], []⟩ := by
 refine contract_fin hm Tryz.func137 pcmp_Compare_Account_ag (by kernel_rfl) ?_
 unfold cmp_Compare_Account at h
 refine W.seqOps (RunR.all (by kernel_rfl)) ?_
 replace h := bindS h
 obtain ⟨x3, hx3, h⟩ := h
 refine W.seqOps (RunR.stat 1 (by kernel_rfl) (RunR.cons (tab_cons (on := true) (fun _ => cmp_isNaN_Account_ok hx3) tab_nil) (Step.call0 (g := 148) (caps := []) (v := .pv (.bool x3)) (by kernel_rfl) (by kernel_rfl) (by kernel_rfl) (tab_hit (by kernel_rfl)) (by kernel_rfl)) (RunR.all (by kernel_rfl)))) ?_
 replace h := bindS h
 obtain ⟨x4, hx4, h⟩ := h
 refine W.seqOps (RunR.stat 1 (by kernel_rfl) (RunR.cons (tab_cons (on := true) (fun _ => cmp_isNaN_Account_ok hx4) tab_nil) (Step.call0 (g := 148) (caps := []) (v := .pv (.bool x4)) (by kernel_rfl) (by kernel_rfl) (by kernel_rfl) (tab_hit (by kernel_rfl)) (by kernel_rfl)) (RunR.all (by kernel_rfl)))) ?_
 refine W.assoc ?_
 refine W.seqOps (RunR.all (by kernel_rfl)) ?_
 refine W.seqCond (t := x3) (by kernel_rfl) h (fun hc h' => ?_) (fun hc h' => ?_)
 ·replace h := h'
  refine W.assoc ?_
  refine W.assoc ?_
  refine W.seqOps (RunR.all (by kernel_rfl)) ?_
  refine W.seqCond (t := x4) (by kernel_rfl) h (fun hc h' => ?_) (fun hc h' => ?_)
  ·replace h := h'
   refine W.assoc ?_
   refine W.seqOps (RunR.all (by kernel_rfl)) ?_
   refine W.seqKeep rfl ?_
   cases h
   exact W.seqRet ((fin_ret (by kernel_rfl)))
  ·replace h := h'
   refine W.seqSkip ?_
   refine W.assoc ?_
   refine W.seqOps (RunR.all (by kernel_rfl)) ?_
   refine W.seqKeep rfl ?_
   cases h
   exact W.seqRet ((fin_ret (by kernel_rfl)))
 ·replace h := h'
  refine W.seqSkip ?_
  refine W.assoc ?_
  refine W.seqOps (RunR.all (by kernel_rfl)) ?_
  refine W.seqCond (t := x4) (by kernel_rfl) h (fun hc h' => ?_) (fun hc h' => ?_)
  ·replace h := h'
   refine W.assoc ?_
   refine W.seqOps (RunR.all (by kernel_rfl)) ?_
   refine W.seqKeep rfl ?_
   cases h
   exact W.seqRet ((fin_ret (by kernel_rfl)))
  ·replace h := h'
   refine W.seqSkip ?_
   refine W.assoc ?_
   refine W.seqOps (RunR.all (by kernel_rfl)) ?_
   refine W.seqCond (t := decide (x1 < y2)) (by kernel_rfl) h (fun hc h' => ?_) (fun hc h' => ?_)
   ·replace h := h'
    refine W.assoc ?_
    refine W.seqOps (RunR.all (by kernel_rfl)) ?_
    refine W.seqKeep rfl ?_
    cases h
    exact W.seqRet ((fin_ret (by kernel_rfl)))
   ·replace h := h'
    refine W.seqSkip ?_
    refine W.assoc ?_
    refine W.seqOps (RunR.all (by kernel_rfl)) ?_
    refine W.seqCond (t := decide (x1 > y2)) (by kernel_rfl) h (fun hc h' => ?_) (fun hc h' => ?_)
    ·replace h := h'
     refine W.assoc ?_
     refine W.seqOps (RunR.all (by kernel_rfl)) ?_
     refine W.seqKeep rfl ?_
     cases h
     exact W.seqRet ((fin_ret (by kernel_rfl)))
    ·replace h := h'
     refine W.seqSkip ?_
     refine W.seqOps (RunR.all (by kernel_rfl)) ?_
     refine W.keep rfl ?_
     cases h
     exact W.ret ((fin_ret (by kernel_rfl)))
def pchart_place_Record_Account_1r0 : List GOp := [⟨(some 3), none, .box (.tmp 0)⟩, ⟨(some 5), none, .mov (.cst (.int .i64 0))⟩]
def pchart_place_Record_Account_1r1 : List GOp := [⟨(some 6), none, .load false 1 (.tmp 2)⟩, ⟨(some 7), none, .load true 8 (.tmp 3)⟩, ⟨(some 8), none, .call 0 0 (.tmp 6) [(.tmp 7)] [] []⟩, ⟨(some 9), none, .mov (.tmp 1)⟩, ⟨(some 10), none, .call 0 0 (.cst (.fn 137)) [(.tmp 8), (.tmp 9)] [] []⟩, ⟨(some 5), none, .mov (.tmp 10)⟩]
def pchart_place_Record_Account_1b : AC := (.seq (.ops pchart_place_Record_Account_1r0) (.seq (.ops pchart_place_Record_Account_1r1) (.keep [] [(5, false)] [(.ext 0, false)] [.loc 3 0] [] .ret)))
def pchart_place_Record_Account_1 : Fd := ⟨3, [.tmp 5], [], pchart_place_Record_Account_1b⟩
theorem pchart_place_Record_Account_1_ag : agreeF Tryz.prog Tryz.f136 pchart_place_Record_Account_1 = true := by kernel_rfl
theorem chart_place_Record_Account_1_ok {x1 : T_api_Record} {n2 : Int} {r : Int} (h : chart_place_Record_Account_1 x1 n2 = some r) : Contract Tryz.prog 136 [.pv (T_api_Record.pv x1), .pv (.int .i64 n2), .ptr (.ext 0) 0] [.box [.pv (.fn 75)]] ⟨.pv (.int .i64 r), [], [(some (.box [.pv (.fn 75)]))]⟩ := by
 refine contract_fin hm Tryz.func136 pchart_place_Record_Account_1_ag (by kernel_rfl) ?_
 unfold chart_place_Record_Account_1 at h
 refine W.seqOps (RunR.all (by kernel_rfl)) ?_
 replace h := bindS h
 obtain ⟨x3, hx3, h⟩ := h
 replace h := bindS h
 obtain ⟨x4, hx4, h⟩ := h
 refine W.seqOps (RunR.stat 2 (by kernel_rfl) (RunR.cons (tab_cons (on := true) (fun _ => chart_accOf_ok hx3) tab_nil) (Step.call0 (g := 75) (caps := []) (v := .pv (.int .i64 x3)) (by kernel_rfl) (by kernel_rfl) (by kernel_rfl) (tab_hit (by kernel_rfl)) (by kernel_rfl)) (RunR.stat 1 (by kernel_rfl) (RunR.cons (tab_cons (on := true) (fun _ => cmp_Compare_Account_ok hx4) tab_nil) (Step.call0 (g := 137) (caps := []) (v := .pv (.int .i64 x4)) (by kernel_rfl) (by kernel_rfl) (by kernel_rfl) (tab_hit (by kernel_rfl)) (by kernel_rfl)) (RunR.all (by kernel_rfl)))))) ?_
 refine W.keep rfl ?_
 cases h
 exact W.ret ((fin_ret (by kernel_rfl)))
def pslices_BinarySearchFunc_Record_Record_Accountr0 : List GOp := [⟨(some 6), none, .mov (.cst (.int .i64 0))⟩, ⟨(some 7), none, .mov (.cst (.bool false))⟩]
def pslices_BinarySearchFunc_Record_Record_Accountr1 : List GOp := [⟨(some 12), none, .mov (.tmp 0)⟩, ⟨(some 13), none, .len false (.tmp 12)⟩, ⟨(some 8), none, .mov (.tmp 13)⟩]
def pslices_BinarySearchFunc_Record_Record_Accountr2 : List GOp := [⟨(some 14), none, .mov (.tmp 8)⟩, ⟨(some 9), none, .mov (.cst (.int .i64 0))⟩, ⟨(some 10), none, .mov (.tmp 14)⟩]
def pslices_BinarySearchFunc_Record_Record_Accountr3 : List GOp := [⟨(some 15), none, .mov (.tmp 9)⟩, ⟨(some 16), none, .mov (.tmp 10)⟩, ⟨(some 17), none, .bin false .lss (.tmp 15) (.tmp 16)⟩]
def pslices_BinarySearchFunc_Record_Record_Accountr4 : List GOp := [⟨(some 18), none, .mov (.tmp 9)⟩, ⟨(some 19), none, .mov (.tmp 10)⟩, ⟨(some 20), none, .bin false .add (.tmp 18) (.tmp 19)⟩, ⟨(some 21), none, .conv .u64 (.tmp 20)⟩, ⟨(some 22), none, .bin false .shr (.tmp 21) (.cst (.int .u64 1))⟩, ⟨(some 23), none, .conv .i64 (.tmp 22)⟩, ⟨(some 11), none, .mov (.tmp 23)⟩]
def pslices_BinarySearchFunc_Record_Record_Accountr5 : List GOp := [⟨(some 24), none, .mov (.tmp 2)⟩, ⟨(some 25), none, .mov (.tmp 0)⟩, ⟨(some 26), none, .mov (.tmp 11)⟩, ⟨(some 27), none, .idx 8 (.tmp 25) (.tmp 26)⟩, ⟨(some 28), none, .load true 8 (.tmp 27)⟩, ⟨(some 29), none, .mov (.tmp 1)⟩, ⟨(some 30), none, .call 0 2 (.tmp 24) [(.tmp 28), (.tmp 29)] [] [.ext 0]⟩, ⟨(some 31), none, .bin false .lss (.tmp 30) (.cst (.int .i64 0))⟩]
def pslices_BinarySearchFunc_Record_Record_Accountr6 : List GOp := [⟨(some 32), none, .mov (.tmp 11)⟩, ⟨(some 33), none, .bin false .add (.tmp 32) (.cst (.int .i64 1))⟩, ⟨(some 9), none, .mov (.tmp 33)⟩]
def pslices_BinarySearchFunc_Record_Record_Accountr7 : List GOp := [⟨(some 34), none, .mov (.tmp 11)⟩, ⟨(some 10), none, .mov (.tmp 34)⟩]
def pslices_BinarySearchFunc_Record_Record_Accountl8 : AC := (.keep [] [(0, false), (1, false), (2, false), (8, false), (9, false), (10, false)] [(.ext 0, false)] [] [] (.seq (.seq (.ops pslices_BinarySearchFunc_Record_Record_Accountr3) (.cond (.tmp 17) .skip (.exit 0))) (.pass 1 (.seq (.ops pslices_BinarySearchFunc_Record_Record_Accountr4) (.seq (.ops pslices_BinarySearchFunc_Record_Record_Accountr5) (.cond (.tmp 31) (.ops pslices_BinarySearchFunc_Record_Record_Accountr6) (.ops pslices_BinarySearchFunc_Record_Record_Accountr7)))))))
def pslices_BinarySearchFunc_Record_Record_Accountr9 : List GOp := [⟨(some 35), none, .mov (.tmp 9)⟩, ⟨(some 36), none, .mov (.tmp 9)⟩, ⟨(some 37), none, .mov (.tmp 8)⟩, ⟨(some 38), none, .bin false .lss (.tmp 36) (.tmp 37)⟩, ⟨(some 39), none, .mov (.tmp 38)⟩, ⟨(some 40), (some (39, true)), .mov (.tmp 2)⟩, ⟨(some 41), (some (39, true)), .mov (.tmp 0)⟩, ⟨(some 42), (some (39, true)), .mov (.tmp 9)⟩, ⟨(some 43), (some (39, true)), .idx 8 (.tmp 41) (.tmp 42)⟩, ⟨(some 44), (some (39, true)), .load true 8 (.tmp 43)⟩, ⟨(some 45), (some (39, true)), .mov (.tmp 1)⟩, ⟨(some 46), (some (39, true)), .call 0 2 (.tmp 40) [(.tmp 44), (.tmp 45)] [] [.ext 0]⟩, ⟨(some 47), (some (39, true)), .bin false .eql (.tmp 46) (.cst (.int .i64 0))⟩, ⟨(some 48), none, .pick (.tmp 39) (.tmp 47) (.cst (.bool false))⟩, ⟨(some 6), none, .mov (.tmp 35)⟩, ⟨(some 7), none, .mov (.tmp 48)⟩]
def pslices_BinarySearchFunc_Record_Record_Accountb : AC := (.seq (.ops pslices_BinarySearchFunc_Record_Record_Accountr0) (.seq (.ops pslices_BinarySearchFunc_Record_Record_Accountr1) (.seq (.ops pslices_BinarySearchFunc_Record_Record_Accountr2) (.seq (.block 0 (.loop [0, 1, 2, 8, 9, 10] [] pslices_BinarySearchFunc_Record_Record_Accountl8)) (.seq (.keep [] [(0, false), (1, false), (2, false), (8, false), (9, false)] [(.ext 0, false)] [] [] (.ops pslices_BinarySearchFunc_Record_Record_Accountr9)) (.keep [] [(6, false), (7, false)] [(.ext 0, false)] [] [] .ret))))))
def pslices_BinarySearchFunc_Record_Record_Account : Fd := ⟨3, [.tmp 6, .tmp 7], [], pslices_BinarySearchFunc_Record_Record_Accountb⟩
theorem pslices_BinarySearchFunc_Record_Record_Account_ag : agreeF Tryz.prog Tryz.f135 pslices_BinarySearchFunc_Record_Record_Account = true := by kernel_rfl
theorem slices_BinarySearchFunc_Record_Record_Account_ok {x1 : List T_api_Record} {target2 : Int} {r : Int × Bool} (h : slices_BinarySearchFunc_Record_Record_Account x1 target2 = some r) : Contract Tryz.prog 135 [.pv (.slice (List.map T_api_Record.pv x1)), .pv (.int .i64 target2), .fn 136 [.ptr (.ext 0) 0]] [.box [.pv (.fn 75)]] ⟨.tup [.pv (.int .i64 r.1), .pv (.bool r.2)], [], [(some (.box [.pv (.fn 75)]))]⟩ := by
 refine contract_fin hm Tryz.func135 pslices_BinarySearchFunc_Record_Record_Account_ag (by kernel_rfl) ?_
 unfold slices_BinarySearchFunc_Record_Record_Account at h
 refine W.seqOps (RunR.all (by kernel_rfl)) ?_
 refine W.seqOps (RunR.stat 1 (by kernel_rfl) (RunR.dyn (Step.lenT (f := T_api_Record.pv) (l := x1) (by kernel_rfl)) (RunR.all (by kernel_rfl)))) ?_
 refine W.seqOps (RunR.all (by kernel_rfl)) ?_
 replace h := bindS h
 obtain ⟨j3, hj3, h⟩ := h
 refine W.join (j := j3) (fun p σ => σ.tidy [] [(0, false), (1, false), (2, false), (8, false), (9, false)] [(.ext 0, false)] [] [] = ⟨[(0, .pv (.slice (List.map T_api_Record.pv x1))), (1, .pv (.int .i64 target2)), (2, .fn 136 [.ptr (.ext 0) 0]), (8, .pv (.int .i64 (x1.length : Int))), (9, .pv (.int .i64 p))], [(.ext 0, .box [.pv (.fn 75)])]⟩) ?_ (fun σj3 hsj3 => ?_)
 ·refine W.blockLoop (fun q σ => ((σ.forget [0, 1, 2, 8, 9, 10]).killAll []).tidy [] [(0, false), (1, false), (2, false), (8, false), (9, false), (10, false)] [(.ext 0, false)] [] [] = ⟨[(0, .pv (.slice (List.map T_api_Record.pv x1))), (1, .pv (.int .i64 target2)), (2, .fn 136 [.ptr (.ext 0) 0]), (8, .pv (.int .i64 (x1.length : Int))), (9, .pv (.int .i64 q.1)), (10, .pv (.int .i64 q.2))], [(.ext 0, .box [.pv (.fn 75)])]⟩) hj3 ?_ ?_
  ·show _ = _
   kernel_rfl
  ·intro q σj3 oj3 hJj3 h
   obtain ⟨i4, j5⟩ := q
   refine W.keep hJj3 ?_
   refine W.assoc ?_
   refine W.seqOps (RunR.all (by kernel_rfl)) ?_
   refine W.seqCond (t := decide (i4 < j5)) (by kernel_rfl) h (fun hc h' => ?_) (fun hc h' => ?_)
   ·replace h := h'
    refine W.seqSkip ?_
    refine W.pass ?_
    refine W.seqOps (RunR.all (by kernel_rfl)) ?_
    replace h := bindS h
    obtain ⟨x6, hx6, h⟩ := h
    replace h := bindS h
    obtain ⟨x7, hx7, h⟩ := h
    refine W.seqOps (RunR.stat 3 (by kernel_rfl) (RunR.dyn (Step.idxT (f := T_api_Record.pv) (l := x1) (n := IntKind.wrap .i64 (Int.fdiv (IntKind.wrap .u64 (IntKind.wrap .i64 (i4 + j5))) 2)) (e := x6) (k := .i64) (by kernel_rfl) (by kernel_rfl) hx6 (by kernel_rfl)) (RunR.stat 2 (by kernel_rfl) (RunR.cons (tab_cons (on := true) (fun _ => chart_place_Record_Account_1_ok hx7) tab_nil) (Step.callG (g := 136) (caps := [.ptr (.ext 0) 0]) (v := .pv (.int .i64 x7)) (ins := []) rfl (by kernel_rfl) (by kernel_rfl) (by kernel_rfl) (tab_hit (by kernel_rfl)) (by kernel_rfl) (by kernel_rfl)) (RunR.all (by kernel_rfl)))))) ?_
    refine W.condI (t := decide (x7 < 0)) (by kernel_rfl) h (fun hc h' => ?_) (fun hc h' => ?_)
    ·replace h := h'
     refine W.ops (RunR.all (by kernel_rfl)) ?_
     cases h
     exact (outw_in (by (show _ = _); kernel_rfl))
    ·replace h := h'
     refine W.ops (RunR.all (by kernel_rfl)) ?_
     cases h
     exact (outw_in (by (show _ = _); kernel_rfl))
   ·replace h := h'
    cases h
    exact W.seqExit ((outw_out exit_ne (bnorm_x (by (show _ = _); kernel_rfl))))
 ·refine W.seqKeep hsj3 ?_
  replace h := bindS h
  obtain ⟨c9, hc9, h⟩ := h
  replace h := bindS h
  obtain ⟨x10, hx10, h⟩ := h
  replace h := bindS h
  obtain ⟨x11, hx11, h⟩ := h
  refine W.seqOps (RunR.stat 4 (by kernel_rfl) (RunR.dyn (Step.name (f := eBool) (e := decide (j3 < (x1.length : Int))) (c := c9) (by kernel_rfl) hc9) (RunR.puts 3 [(42, (bif c9 then (.pv (.int .i64 j3)) else (.tup []))), (41, (bif c9 then (.pv (.slice (List.map T_api_Record.pv x1))) else (.tup []))), (40, (bif c9 then (.fn 136 [.ptr (.ext 0) 0]) else (.tup [])))] (by cases c9 <;> kernel_rfl) (RunR.dyn (Step.gdG c9 (by kernel_rfl) (by
     cases c9
     ·exact .inl ⟨by kernel_rfl, by kernel_rfl⟩
     ·exact .inr ⟨by kernel_rfl, by kernel_rfl, Step.idxT (f := T_api_Record.pv) (l := x1) (n := j3) (e := x10) (k := .i64) (by kernel_rfl) (by kernel_rfl) hx10 (by kernel_rfl)⟩)) (RunR.puts 2 [(45, (bif c9 then (.pv (.int .i64 target2)) else (.tup []))), (44, (bif c9 then (.pv (T_api_Record.pv x10)) else (.tup [])))] (by cases c9 <;> kernel_rfl) (RunR.cons (tab_cons (on := c9) (fun hg => chart_place_Record_Account_1_ok (gdO_at hg hx11)) tab_nil) (Step.gdB c9 (by kernel_rfl) (by
     cases c9
     ·exact .inl ⟨by kernel_rfl, by kernel_rfl⟩
     ·exact .inr ⟨by kernel_rfl, by kernel_rfl, Step.callBs (g := 136) (caps := [.ptr (.ext 0) 0]) (v := .pv (.int .i64 x11)) rfl (by kernel_rfl) (by kernel_rfl) (by kernel_rfl) (tab_hit (by kernel_rfl)) (by kernel_rfl) (by kernel_rfl)⟩)) (RunR.puts 2 [(48, .pv (.bool (c9 && (x11 == 0)))), (47, (bif c9 then (.pv (.bool (x11 == 0))) else (.tup [])))] (by cases c9 <;> kernel_rfl) (RunR.all (by kernel_rfl))))))))) ?_
  refine W.keep rfl ?_
  cases h
  exact W.ret ((fin_ret (by kernel_rfl)))
def pchart_place_Record_Accountr0 : List GOp := [⟨(some 5), none, .box (.tmp 2)⟩, ⟨(some 6), none, .mov (.cst (.int .i64 0))⟩, ⟨(some 7), none, .mov (.cst (.bool false))⟩]
def pchart_place_Record_Accountr1 : List GOp := [⟨(some 8), none, .mov (.tmp 0)⟩, ⟨(some 9), none, .mov (.tmp 1)⟩, ⟨(some 10), none, .mkfn 136 [(.tmp 5)]⟩, ⟨(some 11), none, .call 0 2 (.cst (.fn 135)) [(.tmp 8), (.tmp 9), (.tmp 10)] [] [.loc 5 0]⟩, ⟨(some 12), none, .ext 0 (.tmp 11)⟩, ⟨(some 13), none, .ext 1 (.tmp 11)⟩, ⟨(some 6), none, .mov (.tmp 12)⟩, ⟨(some 7), none, .mov (.tmp 13)⟩]
def pchart_place_Record_Accountb : AC := (.seq (.ops pchart_place_Record_Accountr0) (.seq (.ops pchart_place_Record_Accountr1) (.keep [] [(6, false), (7, false)] [] [.loc 5 0] [] .ret)))
def pchart_place_Record_Account : Fd := ⟨3, [.tmp 6, .tmp 7], [], pchart_place_Record_Accountb⟩
theorem pchart_place_Record_Account_ag : agreeF Tryz.prog Tryz.f106 pchart_place_Record_Account = true := by kernel_rfl
theorem chart_place_Record_Account_ok {l1 : List T_api_Record} {n2 : Int} {r : Int × Bool} (h : chart_place_Record_Account l1 n2 = some r) : Contract Tryz.prog 106 [.pv (.slice (List.map T_api_Record.pv l1)), .pv (.int .i64 n2), .pv (.fn 75)] [] ⟨.tup [.pv (.int .i64 r.1), .pv (.bool r.2)], [], []⟩ := by
 refine contract_fin hm Tryz.func106 pchart_place_Record_Account_ag (by kernel_rfl) ?_
 unfold chart_place_Record_Account at h
 refine W.seqOps (RunR.all (by kernel_rfl)) ?_
 replace h := bindS h
 obtain ⟨x3, hx3, h⟩ := h
 refine W.seqOps (RunR.stat 3 (by kernel_rfl) (RunR.cons (tab_cons (on := true) (fun _ => slices_BinarySearchFunc_Record_Record_Account_ok hx3) tab_nil) (Step.callG (g := 135) (caps := []) (v := .tup [.pv (.int .i64 x3.1), .pv (.bool x3.2)]) (ins := []) rfl (by kernel_rfl) (by kernel_rfl) (by kernel_rfl) (tab_hit (by kernel_rfl)) (by kernel_rfl) (by kernel_rfl)) (RunR.all (by kernel_rfl)))) ?_
 refine W.keep rfl ?_
 cases h
 exact W.ret ((fin_ret (by kernel_rfl)))
def pchart_Findr0 : List GOp := [⟨(some 2), none, .box (.tmp 0)⟩, ⟨(some 4), none, .alloc [.pv (.int .i64 0), .pv (.int .i64 0), .pv (.int .i64 0), .pv (.int .i64 0), .pv (.int .i64 0), .pv (.int .i64 0), .pv (.int .i32 0), .pv (.int .i32 0)]⟩, ⟨(some 5), none, .mov (.cst (.int .i64 0))⟩]
def pchart_Findr1 : List GOp := [⟨(some 8), none, .load true 2 (.tmp 2)⟩, ⟨(some 9), none, .call 0 0 (.cst (.fn 34)) [(.tmp 8)] [] []⟩, ⟨(some 10), none, .un .not (.tmp 9)⟩]
def pchart_Findr2 : List GOp := [⟨(some 11), none, .build [.pv (.int .i64 0), .pv (.int .i64 0), .pv (.int .i64 0), .pv (.int .i64 0), .pv (.int .i64 0), .pv (.int .i64 0), .pv (.int .i32 0), .pv (.int .i32 0)] []⟩, ⟨none, none, .store 8 (.tmp 4) (.tmp 11)⟩, ⟨(some 5), none, .mov (.cst (.int .i64 1))⟩]
def pchart_Findr3 : List GOp := [⟨(some 13), none, .fld 1 (.tmp 2)⟩, ⟨(some 14), none, .load false 1 (.tmp 13)⟩, ⟨(some 15), none, .mov (.tmp 1)⟩, ⟨(some 16), none, .call 0 0 (.cst (.fn 106)) [(.tmp 14), (.tmp 15), (.cst (.fn 75))] [] []⟩, ⟨(some 12), none, .mov (.tmp 16)⟩, ⟨(some 17), none, .ext 0 (.tmp 12)⟩, ⟨(some 18), none, .ext 1 (.tmp 12)⟩, ⟨(some 6), none, .mov (.tmp 17)⟩, ⟨(some 7), none, .mov (.tmp 18)⟩]
def pchart_Findr4 : List GOp := [⟨(some 19), none, .mov (.tmp 7)⟩, ⟨(some 20), none, .un .not (.tmp 19)⟩]
def pchart_Findr5 : List GOp := [⟨(some 21), none, .build [.pv (.int .i64 0), .pv (.int .i64 0), .pv (.int .i64 0), .pv (.int .i64 0), .pv (.int .i64 0), .pv (.int .i64 0), .pv (.int .i32 0), .pv (.int .i32 0)] []⟩, ⟨none, none, .store 8 (.tmp 4) (.tmp 21)⟩, ⟨(some 5), none, .mov (.cst (.int .i64 8))⟩]
def pchart_Findr6 : List GOp := [⟨(some 22), none, .fld 1 (.tmp 2)⟩, ⟨(some 23), none, .load false 1 (.tmp 22)⟩, ⟨(some 24), none, .mov (.tmp 6)⟩, ⟨(some 25), none, .idx 8 (.tmp 23) (.tmp 24)⟩, ⟨(some 26), none, .load true 8 (.tmp 25)⟩, ⟨none, none, .store 8 (.tmp 4) (.tmp 26)⟩, ⟨(some 5), none, .mov (.cst (.int .i64 0))⟩]
def pchart_Findb : AC := (.seq (.ops pchart_Findr0) (.seq (.seq (.ops pchart_Findr1) (.cond (.tmp 10) (.seq (.ops pchart_Findr2) (.keep [] [(4, false), (5, false)] [(.loc 4 0, false)] [.loc 2 0] [] .ret)) .skip)) (.seq (.ops pchart_Findr3) (.seq (.seq (.ops pchart_Findr4) (.cond (.tmp 20) (.seq (.ops pchart_Findr5) (.keep [] [(4, false), (5, false)] [(.loc 4 0, false)] [.loc 2 0] [] .ret)) .skip)) (.seq (.ops pchart_Findr6) (.keep [] [(4, false), (5, false)] [(.loc 4 0, false)] [.loc 2 0] [] .ret))))))
def pchart_Find : Fd := ⟨2, [.cell 4 true 8, .tmp 5], [], pchart_Findb⟩
theorem pchart_Find_ag : agreeF Tryz.prog Tryz.f64 pchart_Find = true := by kernel_rfl
theorem chart_Find_ok {c1 : T_api_Chart} {a2 : Int} {r : T_api_Record × Int} (h : chart_Find c1 a2 = some r) : Contract Tryz.prog 64 [.pv (T_api_Chart.pv c1), .pv (.int .i64 a2)] [] ⟨.tup [.pv (T_api_Record.pv r.1), .pv (.int .i64 r.2)], [], []⟩ := by
 refine contract_fin hm Tryz.func64 pchart_Find_ag (by kernel_rfl) ?_
 unfold chart_Find at h
 refine W.seqOps (RunR.all (by kernel_rfl)) ?_
 refine W.assoc ?_
 replace h := bindS h
 obtain ⟨x3, hx3, h⟩ := h
 refine W.seqOps (RunR.stat 1 (by kernel_rfl) (RunR.cons (tab_cons (on := true) (fun _ => chart_Right_ok hx3) tab_nil) (Step.call0 (g := 34) (caps := []) (v := .pv (.bool x3)) (by kernel_rfl) (by kernel_rfl) (by kernel_rfl) (tab_hit (by kernel_rfl)) (by kernel_rfl)) (RunR.all (by kernel_rfl)))) ?_
 refine W.seqCond (t := !x3) (by kernel_rfl) h (fun hc h' => ?_) (fun hc h' => ?_)
 ·replace h := h'
  refine W.assoc ?_
  refine W.seqOps (RunR.all (by kernel_rfl)) ?_
  refine W.seqKeep rfl ?_
  cases h
  exact W.seqRet ((fin_ret (by kernel_rfl)))
 ·replace h := h'
  refine W.seqSkip ?_
  replace h := bindS h
  obtain ⟨x4, hx4, h⟩ := h
  refine W.seqOps (RunR.stat 3 (by kernel_rfl) (RunR.cons (tab_cons (on := true) (fun _ => chart_place_Record_Account_ok hx4) tab_nil) (Step.call0 (g := 106) (caps := []) (v := .tup [.pv (.int .i64 x4.1), .pv (.bool x4.2)]) (by kernel_rfl) (by kernel_rfl) (by kernel_rfl) (tab_hit (by kernel_rfl)) (by kernel_rfl)) (RunR.all (by kernel_rfl)))) ?_
  refine W.assoc ?_
  refine W.seqOps (RunR.all (by kernel_rfl)) ?_
  refine W.seqCond (t := !x4.2) (by kernel_rfl) h (fun hc h' => ?_) (fun hc h' => ?_)
  ·replace h := h'
   refine W.assoc ?_
   refine W.seqOps (RunR.all (by kernel_rfl)) ?_
   refine W.seqKeep rfl ?_
   cases h
   exact W.seqRet ((fin_ret (by kernel_rfl)))
  ·replace h := h'
   refine W.seqSkip ?_
   replace h := bindS h
   obtain ⟨x5, hx5, h⟩ := h
   refine W.seqOps (RunR.stat 3 (by kernel_rfl) (RunR.dyn (Step.idxT (f := T_api_Record.pv) (l := c1.f_Records) (n := x4.1) (e := x5) (k := .i64) (by kernel_rfl) (by kernel_rfl) hx5 (by kernel_rfl)) (RunR.all (by kernel_rfl)))) ?_
   refine W.keep rfl ?_
   cases h
   exact W.ret ((fin_ret (by kernel_rfl)))
def pavail_checkr0 : List GOp := [⟨(some 2), none, .mov (.cst .nilI)⟩]
def pavail_checkr1 : List GOp := [⟨(some 3), none, .mov (.tmp 0)⟩, ⟨(some 4), none, .bin false .eql (.tmp 3) (.cst (.int .i64 0))⟩]
def pavail_checkr2 : List GOp := [⟨(some 2), none, .mov (.cst .nilI)⟩]
def pavail_checkr3 : List GOp := [⟨(some 5), none, .mov (.tmp 0)⟩, ⟨(some 6), none, .build [.pv (.int .i64 0)] [(0, 1, (.tmp 5))]⟩, ⟨(some 7), none, .mkI 113 (.tmp 6)⟩, ⟨(some 2), none, .mov (.tmp 7)⟩]
def pavail_checkb : AC := (.seq (.ops pavail_checkr0) (.seq (.seq (.ops pavail_checkr1) (.cond (.tmp 4) (.seq (.ops pavail_checkr2) (.keep [] [(2, false)] [] [] [] .ret)) .skip)) (.seq (.ops pavail_checkr3) (.keep [] [(2, false)] [] [] [] .ret))))
def pavail_check : Fd := ⟨1, [.tmp 2], [], pavail_checkb⟩
theorem pavail_check_ag : agreeF Tryz.prog Tryz.f65 pavail_check = true := by kernel_rfl
theorem avail_check_ok {e1 : Int} {r : Option Int} (h : avail_check e1 = some r) : Contract Tryz.prog 65 [.pv (.int .i64 e1)] [] ⟨.pv (eErr 113 r), [], []⟩ := by
 refine contract_fin hm Tryz.func65 pavail_check_ag (by kernel_rfl) ?_
 unfold avail_check at h
 refine W.seqOps (RunR.all (by kernel_rfl)) ?_
 refine W.assoc ?_
 refine W.seqOps (RunR.all (by kernel_rfl)) ?_
 refine W.seqCond (t := (e1 == 0)) (by kernel_rfl) h (fun hc h' => ?_) (fun hc h' => ?_)
 ·replace h := h'
  refine W.assoc ?_
  refine W.seqOps (RunR.all (by kernel_rfl)) ?_
  refine W.seqKeep rfl ?_
  cases h
  exact W.seqRet ((fin_ret (by kernel_rfl)))
 ·replace h := h'
  refine W.seqSkip ?_
  refine W.seqOps (RunR.all (by kernel_rfl)) ?_
  refine W.keep rfl ?_
  cases h
  exact W.ret ((fin_ret (by kernel_rfl)))
def pchart_in_Dater0 : List GOp := [⟨(some 6), none, .mov (.cst (.bool false))⟩]
def pchart_in_Dater1 : List GOp := [⟨(some 7), none, .mov (.tmp 0)⟩, ⟨(some 8), none, .mov (.tmp 1)⟩, ⟨(some 9), none, .bin false .geq (.tmp 7) (.tmp 8)⟩, ⟨(some 10), none, .mov (.tmp 9)⟩, ⟨(some 11), (some (10, true)), .mov (.tmp 0)⟩, ⟨(some 12), (some (10, true)), .mov (.tmp 2)⟩, ⟨(some 13), (some (10, true)), .bin false .leq (.tmp 11) (.tmp 12)⟩, ⟨(some 14), none, .pick (.tmp 10) (.tmp 13) (.cst (.bool false))⟩, ⟨(some 6), none, .mov (.tmp 14)⟩]
def pchart_in_Dateb : AC := (.seq (.ops pchart_in_Dater0) (.seq (.ops pchart_in_Dater1) (.keep [] [(6, false)] [] [] [] .ret)))
def pchart_in_Date : Fd := ⟨3, [.tmp 6], [], pchart_in_Dateb⟩
theorem pchart_in_Date_ag : agreeF Tryz.prog Tryz.f108 pchart_in_Date = true := by kernel_rfl
theorem chart_in_Date_ok {n1 : Int} {low2 : Int} {high3 : Int} {r : Bool} (h : chart_in_Date n1 low2 high3 = some r) : Contract Tryz.prog 108 [.pv (.int .i32 n1), .pv (.int .i32 low2), .pv (.int .i32 high3)] [] ⟨.pv (.bool r), [], []⟩ := by
 refine contract_fin hm Tryz.func108 pchart_in_Date_ag (by kernel_rfl) ?_
 unfold chart_in_Date at h
 refine W.seqOps (RunR.all (by kernel_rfl)) ?_
 replace h := bindS h
 obtain ⟨c4, hc4, h⟩ := h
 refine W.seqOps (RunR.stat 3 (by kernel_rfl) (RunR.dyn (Step.name (f := eBool) (e := decide (n1 ≥ low2)) (c := c4) (by kernel_rfl) hc4) (RunR.puts 4 [(14, .pv (.bool (c4 && (decide (n1 ≤ high3))))), (13, (bif c4 then (.pv (.bool (decide (n1 ≤ high3)))) else (.tup []))), (12, (bif c4 then (.pv (.int .i32 high3)) else (.tup []))), (11, (bif c4 then (.pv (.int .i32 n1)) else (.tup [])))] (by cases c4 <;> kernel_rfl) (RunR.all (by kernel_rfl))))) ?_
 refine W.keep rfl ?_
 cases h
 exact W.ret ((fin_ret (by kernel_rfl)))
def pchart_Isr0 : List GOp := [⟨(some 3), none, .box (.tmp 0)⟩, ⟨(some 6), none, .mov (.cst (.bool false))⟩, ⟨(some 7), none, .mov (.cst (.int .i64 0))⟩]
def pchart_Isr1 : List GOp := [⟨(some 11), none, .load true 2 (.tmp 3)⟩, ⟨(some 12), none, .mov (.tmp 1)⟩, ⟨(some 13), none, .call 0 0 (.cst (.fn 64)) [(.tmp 11), (.tmp 12)] [] []⟩, ⟨(some 10), none, .mov (.tmp 13)⟩, ⟨(some 14), none, .ext 0 (.tmp 10)⟩, ⟨(some 15), none, .ext 1 (.tmp 10)⟩, ⟨(some 8), none, .alloc [.pv (.int .i64 0), .pv (.int .i64 0), .pv (.int .i64 0), .pv (.int .i64 0), .pv (.int .i64 0), .pv (.int .i64 0), .pv (.int .i32 0), .pv (.int .i32 0)]⟩, ⟨none, none, .store 8 (.tmp 8) (.tmp 14)⟩, ⟨(some 9), none, .mov (.tmp 15)⟩]
def pchart_Isr2 : List GOp := [⟨(some 17), none, .mov (.tmp 9)⟩, ⟨(some 18), none, .bin false .neq (.tmp 17) (.cst (.int .i64 0))⟩, ⟨(some 16), none, .mov (.tmp 18)⟩]
def pchart_Isr3 : List GOp := [⟨(some 19), none, .mov (.tmp 9)⟩, ⟨(some 6), none, .mov (.cst (.bool false))⟩, ⟨(some 7), none, .mov (.tmp 19)⟩]
def pchart_Isr4 : List GOp := [⟨(some 21), none, .mov (.tmp 2)⟩, ⟨(some 22), none, .call 0 0 (.cst (.fn 107)) [(.tmp 21)] [] []⟩, ⟨(some 23), none, .un .not (.tmp 22)⟩, ⟨(some 20), none, .mov (.tmp 23)⟩]
def pchart_Isr5 : List GOp := [⟨(some 6), none, .mov (.cst (.bool false))⟩, ⟨(some 7), none, .mov (.cst (.int .i64 11))⟩]
def pchart_Isr6 : List GOp := [⟨(some 24), none, .mov (.tmp 2)⟩, ⟨(some 25), none, .fld 6 (.tmp 8)⟩, ⟨(some 26), none, .load false 1 (.tmp 25)⟩, ⟨(some 27), none, .fld 7 (.tmp 8)⟩, ⟨(some 28), none, .load false 1 (.tmp 27)⟩, ⟨(some 29), none, .call 0 0 (.cst (.fn 108)) [(.tmp 24), (.tmp 26), (.tmp 28)] [] []⟩, ⟨(some 6), none, .mov (.tmp 29)⟩, ⟨(some 7), none, .mov (.cst (.int .i64 0))⟩]
def pchart_Isb : AC := (.seq (.ops pchart_Isr0) (.seq (.ops pchart_Isr1) (.seq (.pass 0 (.seq (.ops pchart_Isr2) (.cond (.tmp 16) (.seq (.ops pchart_Isr3) (.keep [] [(6, false), (7, false)] [] [.loc 3 0, .loc 8 0] [] .ret)) (.seq (.ops pchart_Isr4) (.cond (.tmp 20) (.seq (.ops pchart_Isr5) (.keep [] [(6, false), (7, false)] [] [.loc 3 0, .loc 8 0] [] .ret)) .skip))))) (.seq (.ops pchart_Isr6) (.keep [] [(6, false), (7, false)] [] [.loc 3 0, .loc 8 0] [] .ret)))))
def pchart_Is : Fd := ⟨3, [.tmp 6, .tmp 7], [], pchart_Isb⟩
theorem pchart_Is_ag : agreeF Tryz.prog Tryz.f66 pchart_Is = true := by kernel_rfl
theorem chart_Is_ok {c1 : T_api_Chart} {a2 : Int} {day3 : Int} {r : Bool × Int} (h : chart_Is c1 a2 day3 = some r) : Contract Tryz.prog 66 [.pv (T_api_Chart.pv c1), .pv (.int .i64 a2), .pv (.int .i32 day3)] [] ⟨.tup [.pv (.bool r.1), .pv (.int .i64 r.2)], [], []⟩ := by
 refine contract_fin hm Tryz.func66 pchart_Is_ag (by kernel_rfl) ?_
 unfold chart_Is at h
 refine W.seqOps (RunR.all (by kernel_rfl)) ?_
 replace h := bindS h
 obtain ⟨x4, hx4, h⟩ := h
 refine W.seqOps (RunR.stat 2 (by kernel_rfl) (RunR.cons (tab_cons (on := true) (fun _ => chart_Find_ok hx4) tab_nil) (Step.call0 (g := 64) (caps := []) (v := .tup [.pv (T_api_Record.pv x4.1), .pv (.int .i64 x4.2)]) (by kernel_rfl) (by kernel_rfl) (by kernel_rfl) (tab_hit (by kernel_rfl)) (by kernel_rfl)) (RunR.all (by kernel_rfl)))) ?_
 refine W.seqPass ?_
 refine W.assoc ?_
 refine W.seqOps (RunR.all (by kernel_rfl)) ?_
 refine W.seqCond (t := (x4.2 != 0)) (by kernel_rfl) h (fun hc h' => ?_) (fun hc h' => ?_)
 ·replace h := h'
  refine W.assoc ?_
  refine W.seqOps (RunR.all (by kernel_rfl)) ?_
  refine W.seqKeep rfl ?_
  cases h
  exact W.seqRet ((fin_ret (by kernel_rfl)))
 ·replace h := h'
  refine W.assoc ?_
  replace h := bindS h
  obtain ⟨x5, hx5, h⟩ := h
  refine W.seqOps (RunR.stat 1 (by kernel_rfl) (RunR.cons (tab_cons (on := true) (fun _ => date_Right_ok hx5) tab_nil) (Step.call0 (g := 107) (caps := []) (v := .pv (.bool x5)) (by kernel_rfl) (by kernel_rfl) (by kernel_rfl) (tab_hit (by kernel_rfl)) (by kernel_rfl)) (RunR.all (by kernel_rfl)))) ?_
  refine W.seqCond (t := !x5) (by kernel_rfl) h (fun hc h' => ?_) (fun hc h' => ?_)
  ·replace h := h'
   refine W.assoc ?_
   refine W.seqOps (RunR.all (by kernel_rfl)) ?_
   refine W.seqKeep rfl ?_
   cases h
   exact W.seqRet ((fin_ret (by kernel_rfl)))
  ·replace h := h'
   refine W.seqSkip ?_
   replace h := bindS h
   obtain ⟨x6, hx6, h⟩ := h
   refine W.seqOps (RunR.stat 5 (by kernel_rfl) (RunR.cons (tab_cons (on := true) (fun _ => chart_in_Date_ok hx6) tab_nil) (Step.call0 (g := 108) (caps := []) (v := .pv (.bool x6)) (by kernel_rfl) (by kernel_rfl) (by kernel_rfl) (tab_hit (by kernel_rfl)) (by kernel_rfl)) (RunR.all (by kernel_rfl)))) ?_
   refine W.keep rfl ?_
   cases h
   exact W.ret ((fin_ret (by kernel_rfl)))
def pbalance_may_1r0 : List GOp := [⟨(some 2), none, .mov (.cst (.bool false))⟩]
def pbalance_may_1r1 : List GOp := [⟨(some 3), none, .mov (.tmp 0)⟩, ⟨(some 4), none, .call 0 0 (.cst (.fn 107)) [(.tmp 3)] [] []⟩, ⟨(some 5), none, .un .not (.tmp 4)⟩, ⟨(some 2), none, .mov (.tmp 5)⟩]
def pbalance_may_1b : AC := (.seq (.ops pbalance_may_1r0) (.seq (.ops pbalance_may_1r1) (.keep [] [(2, false)] [] [] [] .ret)))
def pbalance_may_1 : Fd := ⟨1, [.tmp 2], [], pbalance_may_1b⟩
theorem pbalance_may_1_ag : agreeF Tryz.prog Tryz.f138 pbalance_may_1 = true := by kernel_rfl
theorem balance_may_1_ok {d1 : Int} {r : Bool} (h : balance_may_1 d1 = some r) : Contract Tryz.prog 138 [.pv (.int .i32 d1)] [] ⟨.pv (.bool r), [], []⟩ := by
 refine contract_fin hm Tryz.func138 pbalance_may_1_ag (by kernel_rfl) ?_
 unfold balance_may_1 at h
 refine W.seqOps (RunR.all (by kernel_rfl)) ?_
 replace h := bindS h
 obtain ⟨x2, hx2, h⟩ := h
 refine W.seqOps (RunR.stat 1 (by kernel_rfl) (RunR.cons (tab_cons (on := true) (fun _ => date_Right_ok hx2) tab_nil) (Step.call0 (g := 107) (caps := []) (v := .pv (.bool x2)) (by kernel_rfl) (by kernel_rfl) (by kernel_rfl) (tab_hit (by kernel_rfl)) (by kernel_rfl)) (RunR.all (by kernel_rfl)))) ?_
 refine W.keep rfl ?_
 cases h
 exact W.ret ((fin_ret (by kernel_rfl)))
def pslices_IndexFunc_Date_Dater0 : List GOp := [⟨(some 4), none, .mov (.cst (.int .i64 0))⟩]
def pslices_IndexFunc_Date_Dater1 : List GOp := [⟨(some 6), none, .mov (.tmp 0)⟩, ⟨(some 7), none, .len false (.tmp 6)⟩, ⟨(some 8), none, .mov (.cst (.int .i64 0))⟩]
def pslices_IndexFunc_Date_Dater2 : List GOp := [⟨(some 9), none, .bin false .lss (.tmp 8) (.tmp 7)⟩]
def pslices_IndexFunc_Date_Dater3 : List GOp := [⟨(some 10), none, .mov (.tmp 8)⟩, ⟨(some 5), none, .mov (.tmp 10)⟩]
def pslices_IndexFunc_Date_Dater4 : List GOp := [⟨(some 11), none, .mov (.tmp 1)⟩, ⟨(some 12), none, .mov (.tmp 0)⟩, ⟨(some 13), none, .mov (.tmp 5)⟩, ⟨(some 14), none, .idx 1 (.tmp 12) (.tmp 13)⟩, ⟨(some 15), none, .load false 1 (.tmp 14)⟩, ⟨(some 16), none, .call 0 0 (.tmp 11) [(.tmp 15)] [] []⟩]
def pslices_IndexFunc_Date_Dater5 : List GOp := [⟨(some 17), none, .mov (.tmp 5)⟩, ⟨(some 4), none, .mov (.tmp 17)⟩]
def pslices_IndexFunc_Date_Dater6 : List GOp := [⟨(some 18), none, .bin false .add (.tmp 8) (.cst (.int .i64 1))⟩, ⟨(some 8), none, .mov (.tmp 18)⟩]
def pslices_IndexFunc_Date_Datel7 : AC := (.keep [] [(0, false), (1, false), (7, false), (8, false)] [] [] [] (.seq (.ops pslices_IndexFunc_Date_Dater2) (.seq (.cond (.tmp 9) .skip (.exit 0)) (.seq (.pass 1 (.seq (.ops pslices_IndexFunc_Date_Dater3) (.seq (.ops pslices_IndexFunc_Date_Dater4) (.cond (.tmp 16) (.seq (.ops pslices_IndexFunc_Date_Dater5) (.keep [] [(4, false)] [] [] [] .ret)) .skip)))) (.ops pslices_IndexFunc_Date_Dater6)))))
def pslices_IndexFunc_Date_Dater8 : List GOp := [⟨(some 4), none, .mov (.cst (.int .i64 (-1)))⟩]
def pslices_IndexFunc_Date_Dateb : AC := (.seq (.ops pslices_IndexFunc_Date_Dater0) (.seq (.seq (.ops pslices_IndexFunc_Date_Dater1) (.block 0 (.loop [0, 1, 7, 8] [] pslices_IndexFunc_Date_Datel7))) (.seq (.keep [] [] [] [] [] (.ops pslices_IndexFunc_Date_Dater8)) (.keep [] [(4, false)] [] [] [] .ret))))
def pslices_IndexFunc_Date_Date : Fd := ⟨2, [.tmp 4], [], pslices_IndexFunc_Date_Dateb⟩
theorem pslices_IndexFunc_Date_Date_ag : agreeF Tryz.prog Tryz.f149 pslices_IndexFunc_Date_Date = true := by kernel_rfl
theorem slices_IndexFunc_Date_Date_ok {s1 : List Int} {r : Int} (h : slices_IndexFunc_Date_Date s1 = some r) : Contract Tryz.prog 149 [.pv (.slice (List.map (eInt .i32) s1)), .pv (.fn 138)] [] ⟨.pv (.int .i64 r), [], []⟩ := by
 refine contract_fin hm Tryz.func149 pslices_IndexFunc_Date_Date_ag (by kernel_rfl) ?_
 unfold slices_IndexFunc_Date_Date at h
 refine W.seqOps (RunR.all (by kernel_rfl)) ?_
 refine W.assoc ?_
 refine W.seqOps (RunR.stat 1 (by kernel_rfl) (RunR.dyn (Step.lenT (f := (eInt .i32)) (l := s1) (by kernel_rfl)) (RunR.all (by kernel_rfl)))) ?_
 replace h := bindS h
 obtain ⟨j2, hj2, h⟩ := h
 refine W.joinOut (j := j2) (o := r) (fun p σ => σ.tidy [] [] [] [] [] = ⟨[], []⟩) ?_ (fun p σj2 hp hsj2 => ?_) (fun p hp => ?_)
 ·refine W.blockLoopO (fun q σ => ((σ.forget [0, 1, 7, 8]).killAll []).tidy [] [(0, false), (1, false), (7, false), (8, false)] [] [] [] = ⟨[(0, .pv (.slice (List.map (eInt .i32) s1))), (1, .pv (.fn 138)), (7, .pv (.int .i64 (s1.length : Int))), (8, .pv (.int .i64 q))], []⟩) hj2 ?_ ?_
  ·show _ = _
   kernel_rfl
  ·intro x3 σj2 oj2 hJj2 h
   refine W.keep hJj2 ?_
   refine W.seqOps (RunR.all (by kernel_rfl)) ?_
   refine W.seqCond (t := decide (x3 < (s1.length : Int))) (by kernel_rfl) h (fun hc h' => ?_) (fun hc h' => ?_)
   ·replace h := h'
    refine W.seqSkip ?_
    refine W.seqPass ?_
    refine W.assoc ?_
    refine W.seqOps (RunR.all (by kernel_rfl)) ?_
    refine W.assoc ?_
    replace h := bindS h
    obtain ⟨x4, hx4, h⟩ := h
    replace h := bindS h
    obtain ⟨x5, hx5, h⟩ := h
    refine W.seqOps (RunR.stat 3 (by kernel_rfl) (RunR.dyn (Step.idxT (f := (eInt .i32)) (l := s1) (n := x3) (e := x4) (k := .i64) (by kernel_rfl) (by kernel_rfl) hx4 (by kernel_rfl)) (RunR.stat 1 (by kernel_rfl) (RunR.cons (tab_cons (on := true) (fun _ => balance_may_1_ok hx5) tab_nil) (Step.call0 (g := 138) (caps := []) (v := .pv (.bool x5)) (by kernel_rfl) (by kernel_rfl) (by kernel_rfl) (tab_hit (by kernel_rfl)) (by kernel_rfl)) ((.nil _)))))) ?_
    refine W.seqCond (t := x5) (by kernel_rfl) h (fun hc h' => ?_) (fun hc h' => ?_)
    ·replace h := h'
     refine W.assoc ?_
     refine W.seqOps (RunR.all (by kernel_rfl)) ?_
     refine W.seqKeep rfl ?_
     cases h
     exact W.seqRet ((outw_out ret_ne (bout_o ret_ne ret_ne' (fun e => by subst e; exact (fin_ret (by kernel_rfl))))))
    ·replace h := h'
     refine W.seqSkip ?_
     refine W.ops (RunR.all (by kernel_rfl)) ?_
     cases h
     exact (outw_in (by (show _ = _); kernel_rfl))
   ·replace h := h'
    cases h
    exact W.seqExit ((outw_out exit_ne (bout_x (by (show _ = _); kernel_rfl))))
 ·subst hp
  obtain ⟨⟩ := p
  refine W.seqKeep hsj2 ?_
  refine W.seqOps (RunR.all (by kernel_rfl)) ?_
  refine W.keep rfl ?_
  cases h
  exact W.ret ((fin_ret (by kernel_rfl)))
 ·subst hp
  exact Option.some.inj h
def pslices_ContainsFunc_Date_Dater0 : List GOp := [⟨(some 4), none, .mov (.cst (.bool false))⟩]
def pslices_ContainsFunc_Date_Dater1 : List GOp := [⟨(some 5), none, .mov (.tmp 0)⟩, ⟨(some 6), none, .mov (.tmp 1)⟩, ⟨(some 7), none, .call 0 0 (.cst (.fn 149)) [(.tmp 5), (.tmp 6)] [] []⟩, ⟨(some 8), none, .bin false .geq (.tmp 7) (.cst (.int .i64 0))⟩, ⟨(some 4), none, .mov (.tmp 8)⟩]
def pslices_ContainsFunc_Date_Dateb : AC := (.seq (.ops pslices_ContainsFunc_Date_Dater0) (.seq (.ops pslices_ContainsFunc_Date_Dater1) (.keep [] [(4, false)] [] [] [] .ret)))
def pslices_ContainsFunc_Date_Date : Fd := ⟨2, [.tmp 4], [], pslices_ContainsFunc_Date_Dateb⟩
theorem pslices_ContainsFunc_Date_Date_ag : agreeF Tryz.prog Tryz.f139 pslices_ContainsFunc_Date_Date = true := by kernel_rfl
theorem slices_ContainsFunc_Date_Date_ok {s1 : List Int} {r : Bool} (h : slices_ContainsFunc_Date_Date s1 = some r) : Contract Tryz.prog 139 [.pv (.slice (List.map (eInt .i32) s1)), .pv (.fn 138)] [] ⟨.pv (.bool r), [], []⟩ := by
 refine contract_fin hm Tryz.func139 pslices_ContainsFunc_Date_Date_ag (by kernel_rfl) ?_
 unfold slices_ContainsFunc_Date_Date at h
 refine W.seqOps (RunR.all (by kernel_rfl)) ?_
 replace h := bindS h
 obtain ⟨x2, hx2, h⟩ := h
 refine W.seqOps (RunR.stat 2 (by kernel_rfl) (RunR.cons (tab_cons (on := true) (fun _ => slices_IndexFunc_Date_Date_ok hx2) tab_nil) (Step.call0 (g := 149) (caps := []) (v := .pv (.int .i64 x2)) (by kernel_rfl) (by kernel_rfl) (by kernel_rfl) (tab_hit (by kernel_rfl)) (by kernel_rfl)) (RunR.all (by kernel_rfl)))) ?_
 refine W.keep rfl ?_
 cases h
 exact W.ret ((fin_ret (by kernel_rfl)))
end Go.Av.G
end
