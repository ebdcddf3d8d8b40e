import Derived.Test.YtkcilagjhieapaaGreatDoorC16
section
set_option linter.unusedVariables false
set_option linter.unusedSimpArgs false
set_option maxRecDepth 100000
set_option maxHeartbeats 8000000
namespace Go.Av.G
open Go Go.Av Go.Proofs
def pcashbookref25_Rightr0 : List GOp := [⟨(some 1), none, .box (.tmp 0)⟩, ⟨(some 2), none, .mov (.cst (.bool false))⟩]
def pcashbookref25_Rightr1 : List GOp := [⟨(some 6), none, .fld 2 (.tmp 1)⟩, ⟨(some 7), none, .load true 2 (.tmp 6)⟩, ⟨(some 8), none, .call 0 0 (.cst (.fn 60)) [(.tmp 7)] [] []⟩, ⟨(some 3), none, .mov (.tmp 8)⟩]
def pcashbookref25_Rightr2 : List GOp := [⟨(some 9), none, .fld 5 (.tmp 1)⟩, ⟨(some 10), none, .load false 1 (.tmp 9)⟩, ⟨(some 11), none, .call 0 0 (.cst (.fn 41)) [(.tmp 10)] [] []⟩, ⟨(some 4), none, .mov (.tmp 11)⟩]
def pcashbookref25_Rightr3 : List GOp := [⟨(some 12), none, .fld 6 (.tmp 1)⟩, ⟨(some 13), none, .load false 1 (.tmp 12)⟩, ⟨(some 14), none, .call 0 0 (.cst (.fn 41)) [(.tmp 13)] [] []⟩, ⟨(some 5), none, .mov (.tmp 14)⟩]
def pcashbookref25_Rightr4 : List GOp := [⟨(some 15), none, .mov (.tmp 3)⟩, ⟨(some 16), none, .un .not (.tmp 15)⟩, ⟨(some 17), none, .mov (.tmp 16)⟩, ⟨(some 18), (some (17, false)), .mov (.tmp 4)⟩, ⟨(some 19), (some (17, false)), .un .not (.tmp 18)⟩, ⟨(some 20), none, .pick (.tmp 17) (.cst (.bool true)) (.tmp 19)⟩, ⟨(some 21), none, .mov (.tmp 20)⟩, ⟨(some 22), (some (21, false)), .mov (.tmp 5)⟩, ⟨(some 23), (some (21, false)), .un .not (.tmp 22)⟩, ⟨(some 24), none, .pick (.tmp 21) (.cst (.bool true)) (.tmp 23)⟩, ⟨(some 25), none, .mov (.tmp 24)⟩, ⟨(some 26), (some (25, false)), .fld 6 (.tmp 1)⟩, ⟨(some 27), (some (25, false)), .load false 1 (.tmp 26)⟩, ⟨(some 28), (some (25, false)), .fld 5 (.tmp 1)⟩, ⟨(some 29), (some (25, false)), .load false 1 (.tmp 28)⟩, ⟨(some 30), (some (25, false)), .bin false .lss (.tmp 27) (.tmp 29)⟩, ⟨(some 31), none, .pick (.tmp 25) (.cst (.bool true)) (.tmp 30)⟩, ⟨(some 32), none, .mov (.tmp 31)⟩, ⟨(some 33), (some (32, false)), .fld 2 (.tmp 1)⟩, ⟨(some 34), (some (32, false)), .fld 1 (.tmp 33)⟩, ⟨(some 35), (some (32, false)), .load false 1 (.tmp 34)⟩, ⟨(some 36), (some (32, false)), .bin false .leq (.tmp 35) (.cst (.int .i64 0))⟩, ⟨(some 37), none, .pick (.tmp 32) (.cst (.bool true)) (.tmp 36)⟩, ⟨(some 38), none, .mov (.tmp 37)⟩, ⟨(some 39), (some (38, false)), .fld 7 (.tmp 1)⟩, ⟨(some 40), (some (38, false)), .load false 1 (.tmp 39)⟩, ⟨(some 41), (some (38, false)), .bin false .lss (.tmp 40) (.cst (.int .i64 0))⟩, ⟨(some 42), none, .pick (.tmp 38) (.cst (.bool true)) (.tmp 41)⟩, ⟨(some 43), none, .mov (.tmp 42)⟩, ⟨(some 44), (some (43, false)), .fld 7 (.tmp 1)⟩, ⟨(some 45), (some (43, false)), .load false 1 (.tmp 44)⟩, ⟨(some 46), (some (43, false)), .fld 2 (.tmp 1)⟩, ⟨(some 47), (some (43, false)), .fld 1 (.tmp 46)⟩, ⟨(some 48), (some (43, false)), .load false 1 (.tmp 47)⟩, ⟨(some 49), (some (43, false)), .bin false .gtr (.tmp 45) (.tmp 48)⟩, ⟨(some 50), none, .pick (.tmp 43) (.cst (.bool true)) (.tmp 49)⟩]
def pcashbookref25_Rightr5 : List GOp := [⟨(some 2), none, .mov (.cst (.bool false))⟩]
def pcashbookref25_Rightr6 : List GOp := [⟨(some 51), none, .fld 0 (.tmp 1)⟩, ⟨(some 52), none, .load false 1 (.tmp 51)⟩, ⟨(some 53), none, .bin false .geq (.tmp 52) (.cst (.int .i64 1))⟩, ⟨(some 54), none, .mov (.tmp 53)⟩, ⟨(some 55), (some (54, true)), .fld 0 (.tmp 1)⟩, ⟨(some 56), (some (54, true)), .load false 1 (.tmp 55)⟩, ⟨(some 57), (some (54, true)), .bin false .leq (.tmp 56) (.cst (.int .i64 1000000))⟩, ⟨(some 58), none, .pick (.tmp 54) (.tmp 57) (.cst (.bool false))⟩, ⟨(some 59), none, .mov (.tmp 58)⟩, ⟨(some 60), (some (59, true)), .fld 1 (.tmp 1)⟩, ⟨(some 61), (some (59, true)), .load false 1 (.tmp 60)⟩, ⟨(some 62), (some (59, true)), .bin false .geq (.tmp 61) (.cst (.int .i64 1))⟩, ⟨(some 63), none, .pick (.tmp 59) (.tmp 62) (.cst (.bool false))⟩, ⟨(some 64), none, .mov (.tmp 63)⟩, ⟨(some 65), (some (64, true)), .fld 1 (.tmp 1)⟩, ⟨(some 66), (some (64, true)), .load false 1 (.tmp 65)⟩, ⟨(some 67), (some (64, true)), .bin false .leq (.tmp 66) (.cst (.int .i64 999))⟩, ⟨(some 68), none, .pick (.tmp 64) (.tmp 67) (.cst (.bool false))⟩, ⟨(some 69), none, .mov (.tmp 68)⟩, ⟨(some 70), (some (69, true)), .fld 4 (.tmp 1)⟩, ⟨(some 71), (some (69, true)), .load false 1 (.tmp 70)⟩, ⟨(some 72), (some (69, true)), .bin false .geq (.tmp 71) (.cst (.int .i64 0))⟩, ⟨(some 73), none, .pick (.tmp 69) (.tmp 72) (.cst (.bool false))⟩, ⟨(some 74), none, .mov (.tmp 73)⟩, ⟨(some 75), (some (74, true)), .fld 4 (.tmp 1)⟩, ⟨(some 76), (some (74, true)), .load false 1 (.tmp 75)⟩, ⟨(some 77), (some (74, true)), .bin false .leq (.tmp 76) (.cst (.int .i64 9))⟩, ⟨(some 78), none, .pick (.tmp 74) (.tmp 77) (.cst (.bool false))⟩, ⟨(some 2), none, .mov (.tmp 78)⟩]
def pcashbookref25_Rightb : AC := (.seq (.ops pcashbookref25_Rightr0) (.seq (.ops pcashbookref25_Rightr1) (.seq (.ops pcashbookref25_Rightr2) (.seq (.ops pcashbookref25_Rightr3) (.seq (.seq (.ops pcashbookref25_Rightr4) (.cond (.tmp 50) (.seq (.ops pcashbookref25_Rightr5) (.keep [] [(2, false)] [] [.loc 1 0] [] .ret)) .skip)) (.seq (.ops pcashbookref25_Rightr6) (.keep [] [(2, false)] [] [.loc 1 0] [] .ret)))))))
def pcashbookref25_Right : Fd := ⟨1, [.tmp 2], [], pcashbookref25_Rightb⟩
theorem pcashbookref25_Right_ag : agreeF Tryz.prog Tryz.f57 pcashbookref25_Right = true := by kernel_rfl
theorem cashbookref25_Right_ok {h1 : T_api_Hold} {r : Bool} (h : cashbookref25_Right h1 = some r) : Contract Tryz.prog 57 [.pv (T_api_Hold.pv h1)] [] ⟨.pv (.bool r), [], []⟩ := by
 refine contract_fin hm Tryz.func57 pcashbookref25_Right_ag (by kernel_rfl) ?_
 unfold cashbookref25_Right at h
 refine W.seqOps (RunR.all (by kernel_rfl)) ?_
 replace h := bindS h
 obtain ⟨x2, hx2, h⟩ := h
 refine W.seqOps (RunR.stat 2 (by kernel_rfl) (RunR.cons (tab_cons (on := true) (fun _ => cashbookref03_Right_ok hx2) tab_nil) (Step.call0 (g := 60) (caps := []) (v := .pv (.bool x2)) (by kernel_rfl) (by kernel_rfl) (by kernel_rfl) (tab_hit (by kernel_rfl)) (by kernel_rfl)) (RunR.all (by kernel_rfl)))) ?_
 replace h := bindS h
 obtain ⟨x3, hx3, h⟩ := h
 refine W.seqOps (RunR.stat 2 (by kernel_rfl) (RunR.cons (tab_cons (on := true) (fun _ => cashbookref04_Right_ok hx3) tab_nil) (Step.call0 (g := 41) (caps := []) (v := .pv (.bool x3)) (by kernel_rfl) (by kernel_rfl) (by kernel_rfl) (tab_hit (by kernel_rfl)) (by kernel_rfl)) (RunR.all (by kernel_rfl)))) ?_
 replace h := bindS h
 obtain ⟨x4, hx4, h⟩ := h
 refine W.seqOps (RunR.stat 2 (by kernel_rfl) (RunR.cons (tab_cons (on := true) (fun _ => cashbookref04_Right_ok hx4) tab_nil) (Step.call0 (g := 41) (caps := []) (v := .pv (.bool x4)) (by kernel_rfl) (by kernel_rfl) (by kernel_rfl) (tab_hit (by kernel_rfl)) (by kernel_rfl)) (RunR.all (by kernel_rfl)))) ?_
 refine W.assoc ?_
 replace h := bindS h
 obtain ⟨c5, hc5, h⟩ := h
 replace h := bindS h
 obtain ⟨c6, hc6, h⟩ := h
 replace h := bindS h
 obtain ⟨c7, hc7, h⟩ := h
 replace h := bindS h
 obtain ⟨c8, hc8, h⟩ := h
 replace h := bindS h
 obtain ⟨c9, hc9, h⟩ := h
 replace h := bindS h
 obtain ⟨c10, hc10, h⟩ := h
 refine W.seqOps (RunR.stat 2 (by kernel_rfl) (RunR.dyn (Step.name (f := eBool) (e := !x2) (c := c5) (by kernel_rfl) hc5) (RunR.puts 3 [(20, .pv (.bool (c5 || (!x3)))), (19, (bif !c5 then (.pv (.bool (!x3))) else (.tup []))), (18, (bif !c5 then (.pv (.bool x3)) else (.tup [])))] (by cases c5 <;> kernel_rfl) (RunR.dyn (Step.name (f := eBool) (e := (c5 || (!x3))) (c := c6) (by kernel_rfl) hc6) (RunR.puts 3 [(24, .pv (.bool (c6 || (!x4)))), (23, (bif !c6 then (.pv (.bool (!x4))) else (.tup []))), (22, (bif !c6 then (.pv (.bool x4)) else (.tup [])))] (by cases c6 <;> kernel_rfl) (RunR.dyn (Step.name (f := eBool) (e := (c6 || (!x4))) (c := c7) (by kernel_rfl) hc7) (RunR.puts 6 [(31, .pv (.bool (c7 || (decide (h1.f_Until < h1.f_Made))))), (30, (bif !c7 then (.pv (.bool (decide (h1.f_Until < h1.f_Made)))) else (.tup []))), (29, (bif !c7 then (.pv (.int .i32 h1.f_Made)) else (.tup []))), (28, (bif !c7 then (.ptr (.loc 1 0) 5) else (.tup []))), (27, (bif !c7 then (.pv (.int .i32 h1.f_Until)) else (.tup []))), (26, (bif !c7 then (.ptr (.loc 1 0) 6) else (.tup [])))] (by cases c7 <;> kernel_rfl) (RunR.dyn (Step.name (f := eBool) (e := (c7 || (decide (h1.f_Until < h1.f_Made)))) (c := c8) (by kernel_rfl) hc8) (RunR.puts 5 [(37, .pv (.bool (c8 || (decide (h1.f_Amount.f_Minor ≤ 0))))), (36, (bif !c8 then (.pv (.bool (decide (h1.f_Amount.f_Minor ≤ 0)))) else (.tup []))), (35, (bif !c8 then (.pv (.int .i64 h1.f_Amount.f_Minor)) else (.tup []))), (34, (bif !c8 then (.ptr (.loc 1 0) 3) else (.tup []))), (33, (bif !c8 then (.ptr (.loc 1 0) 2) else (.tup [])))] (by cases c8 <;> kernel_rfl) (RunR.dyn (Step.name (f := eBool) (e := (c8 || (decide (h1.f_Amount.f_Minor ≤ 0)))) (c := c9) (by kernel_rfl) hc9) (RunR.puts 4 [(42, .pv (.bool (c9 || (decide (h1.f_Taken < 0))))), (41, (bif !c9 then (.pv (.bool (decide (h1.f_Taken < 0)))) else (.tup []))), (40, (bif !c9 then (.pv (.int .i64 h1.f_Taken)) else (.tup []))), (39, (bif !c9 then (.ptr (.loc 1 0) 7) else (.tup [])))] (by cases c9 <;> kernel_rfl) (RunR.dyn (Step.name (f := eBool) (e := (c9 || (decide (h1.f_Taken < 0)))) (c := c10) (by kernel_rfl) hc10) (RunR.puts 7 [(50, .pv (.bool (c10 || (decide (h1.f_Taken > h1.f_Amount.f_Minor))))), (49, (bif !c10 then (.pv (.bool (decide (h1.f_Taken > h1.f_Amount.f_Minor)))) else (.tup []))), (48, (bif !c10 then (.pv (.int .i64 h1.f_Amount.f_Minor)) else (.tup []))), (47, (bif !c10 then (.ptr (.loc 1 0) 3) else (.tup []))), (46, (bif !c10 then (.ptr (.loc 1 0) 2) else (.tup []))), (45, (bif !c10 then (.pv (.int .i64 h1.f_Taken)) else (.tup []))), (44, (bif !c10 then (.ptr (.loc 1 0) 7) else (.tup [])))] (by cases c10 <;> kernel_rfl) ((.nil _))))))))))))))) ?_
 refine W.seqCond (t := (c10 || (decide (h1.f_Taken > h1.f_Amount.f_Minor)))) (by kernel_rfl) h (fun hc h' => ?_) (fun hc h' => ?_)
 ·replace h := h'
  refine W.assoc ?_
  refine W.seqOps (RunR.all (by kernel_rfl)) ?_
  refine W.seqKeep rfl ?_
  cases h
  exact W.seqRet ((fin_ret (by kernel_rfl)))
 ·replace h := h'
  refine W.seqSkip ?_
  replace h := bindS h
  obtain ⟨c11, hc11, h⟩ := h
  replace h := bindS h
  obtain ⟨c12, hc12, h⟩ := h
  replace h := bindS h
  obtain ⟨c13, hc13, h⟩ := h
  replace h := bindS h
  obtain ⟨c14, hc14, h⟩ := h
  replace h := bindS h
  obtain ⟨c15, hc15, h⟩ := h
  refine W.seqOps (RunR.stat 3 (by kernel_rfl) (RunR.dyn (Step.name (f := eBool) (e := decide (h1.f_ID ≥ 1)) (c := c11) (by kernel_rfl) hc11) (RunR.puts 4 [(58, .pv (.bool (c11 && (decide (h1.f_ID ≤ 1000000))))), (57, (bif c11 then (.pv (.bool (decide (h1.f_ID ≤ 1000000)))) else (.tup []))), (56, (bif c11 then (.pv (.int .i64 h1.f_ID)) else (.tup []))), (55, (bif c11 then (.ptr (.loc 1 0) 0) else (.tup [])))] (by cases c11 <;> kernel_rfl) (RunR.dyn (Step.name (f := eBool) (e := (c11 && (decide (h1.f_ID ≤ 1000000)))) (c := c12) (by kernel_rfl) hc12) (RunR.puts 4 [(63, .pv (.bool (c12 && (decide (h1.f_Acc ≥ 1))))), (62, (bif c12 then (.pv (.bool (decide (h1.f_Acc ≥ 1)))) else (.tup []))), (61, (bif c12 then (.pv (.int .i64 h1.f_Acc)) else (.tup []))), (60, (bif c12 then (.ptr (.loc 1 0) 1) else (.tup [])))] (by cases c12 <;> kernel_rfl) (RunR.dyn (Step.name (f := eBool) (e := (c12 && (decide (h1.f_Acc ≥ 1)))) (c := c13) (by kernel_rfl) hc13) (RunR.puts 4 [(68, .pv (.bool (c13 && (decide (h1.f_Acc ≤ 999))))), (67, (bif c13 then (.pv (.bool (decide (h1.f_Acc ≤ 999)))) else (.tup []))), (66, (bif c13 then (.pv (.int .i64 h1.f_Acc)) else (.tup []))), (65, (bif c13 then (.ptr (.loc 1 0) 1) else (.tup [])))] (by cases c13 <;> kernel_rfl) (RunR.dyn (Step.name (f := eBool) (e := (c13 && (decide (h1.f_Acc ≤ 999)))) (c := c14) (by kernel_rfl) hc14) (RunR.puts 4 [(73, .pv (.bool (c14 && (decide (h1.f_Rank ≥ 0))))), (72, (bif c14 then (.pv (.bool (decide (h1.f_Rank ≥ 0)))) else (.tup []))), (71, (bif c14 then (.pv (.int .i64 h1.f_Rank)) else (.tup []))), (70, (bif c14 then (.ptr (.loc 1 0) 4) else (.tup [])))] (by cases c14 <;> kernel_rfl) (RunR.dyn (Step.name (f := eBool) (e := (c14 && (decide (h1.f_Rank ≥ 0)))) (c := c15) (by kernel_rfl) hc15) (RunR.puts 4 [(78, .pv (.bool (c15 && (decide (h1.f_Rank ≤ 9))))), (77, (bif c15 then (.pv (.bool (decide (h1.f_Rank ≤ 9)))) else (.tup []))), (76, (bif c15 then (.pv (.int .i64 h1.f_Rank)) else (.tup []))), (75, (bif c15 then (.ptr (.loc 1 0) 4) else (.tup [])))] (by cases c15 <;> kernel_rfl) (RunR.all (by kernel_rfl))))))))))))) ?_
  refine W.keep rfl ?_
  cases h
  exact W.ret ((fin_ret (by kernel_rfl)))
def pcashbookref25_Checkr0 : List GOp := [⟨(some 2), none, .mov (.cst (.int .i64 0))⟩]
def pcashbookref25_Checkr1 : List GOp := [⟨(some 3), none, .mov (.cst (.int .i64 0))⟩]
def pcashbookref25_Checkr2 : List GOp := [⟨(some 6), none, .mov (.tmp 3)⟩, ⟨(some 7), none, .mov (.tmp 0)⟩, ⟨(some 8), none, .len false (.tmp 7)⟩, ⟨(some 9), none, .bin false .lss (.tmp 6) (.tmp 8)⟩]
def pcashbookref25_Checkr3 : List GOp := [⟨(some 12), none, .mov (.tmp 0)⟩, ⟨(some 13), none, .mov (.tmp 3)⟩, ⟨(some 14), none, .idx 9 (.tmp 12) (.tmp 13)⟩, ⟨(some 15), none, .load true 9 (.tmp 14)⟩, ⟨(some 16), none, .call 0 0 (.cst (.fn 57)) [(.tmp 15)] [] []⟩, ⟨(some 4), none, .mov (.tmp 16)⟩]
def pcashbookref25_Checkr4 : List GOp := [⟨(some 17), none, .mov (.tmp 4)⟩, ⟨(some 18), none, .un .not (.tmp 17)⟩]
def pcashbookref25_Checkr5 : List GOp := [⟨(some 2), none, .mov (.cst (.int .i64 1))⟩]
def pcashbookref25_Checkr6 : List GOp := [⟨(some 10), none, .mov (.tmp 3)⟩, ⟨(some 11), none, .bin false .add (.tmp 10) (.cst (.int .i64 1))⟩, ⟨(some 3), none, .mov (.tmp 11)⟩]
def pcashbookref25_Checkl7 : AC := (.keep [] [(0, false), (3, false)] [] [] [] (.seq (.seq (.ops pcashbookref25_Checkr2) (.cond (.tmp 9) .skip (.exit 0))) (.seq (.pass 1 (.seq (.ops pcashbookref25_Checkr3) (.seq (.ops pcashbookref25_Checkr4) (.cond (.tmp 18) (.seq (.ops pcashbookref25_Checkr5) (.keep [] [(2, false)] [] [] [] .ret)) .skip)))) (.ops pcashbookref25_Checkr6))))
def pcashbookref25_Checkr8 : List GOp := [⟨(some 5), none, .mov (.cst (.int .i64 1))⟩]
def pcashbookref25_Checkr9 : List GOp := [⟨(some 19), none, .mov (.tmp 5)⟩, ⟨(some 20), none, .mov (.tmp 0)⟩, ⟨(some 21), none, .len false (.tmp 20)⟩, ⟨(some 22), none, .bin false .lss (.tmp 19) (.tmp 21)⟩]
def pcashbookref25_Checkr10 : List GOp := [⟨(some 25), none, .mov (.tmp 0)⟩, ⟨(some 26), none, .mov (.tmp 5)⟩, ⟨(some 27), none, .idx 9 (.tmp 25) (.tmp 26)⟩, ⟨(some 28), none, .fld 0 (.tmp 27)⟩, ⟨(some 29), none, .load false 1 (.tmp 28)⟩, ⟨(some 30), none, .mov (.tmp 0)⟩, ⟨(some 31), none, .mov (.tmp 5)⟩, ⟨(some 32), none, .bin false .sub (.tmp 31) (.cst (.int .i64 1))⟩, ⟨(some 33), none, .idx 9 (.tmp 30) (.tmp 32)⟩, ⟨(some 34), none, .fld 0 (.tmp 33)⟩, ⟨(some 35), none, .load false 1 (.tmp 34)⟩, ⟨(some 36), none, .bin false .leq (.tmp 29) (.tmp 35)⟩]
def pcashbookref25_Checkr11 : List GOp := [⟨(some 2), none, .mov (.cst (.int .i64 20))⟩]
def pcashbookref25_Checkr12 : List GOp := [⟨(some 23), none, .mov (.tmp 5)⟩, ⟨(some 24), none, .bin false .add (.tmp 23) (.cst (.int .i64 1))⟩, ⟨(some 5), none, .mov (.tmp 24)⟩]
def pcashbookref25_Checkl13 : AC := (.keep [] [(0, false), (5, false)] [] [] [] (.seq (.seq (.ops pcashbookref25_Checkr9) (.cond (.tmp 22) .skip (.exit 2))) (.seq (.pass 3 (.seq (.draw [] pcashbookref25_Checkr10) (.cond (.tmp 36) (.seq (.ops pcashbookref25_Checkr11) (.keep [] [(2, false)] [] [] [] .ret)) .skip))) (.ops pcashbookref25_Checkr12))))
def pcashbookref25_Checkr14 : List GOp := [⟨(some 37), none, .mov (.tmp 0)⟩, ⟨(some 38), none, .len false (.tmp 37)⟩, ⟨(some 39), none, .bin false .gtr (.tmp 38) (.cst (.int .i64 200))⟩]
def pcashbookref25_Checkr15 : List GOp := [⟨(some 2), none, .mov (.cst (.int .i64 6))⟩]
def pcashbookref25_Checkr16 : List GOp := [⟨(some 2), none, .mov (.cst (.int .i64 0))⟩]
def pcashbookref25_Checkb : AC := (.seq (.ops pcashbookref25_Checkr0) (.seq (.seq (.ops pcashbookref25_Checkr1) (.block 0 (.loop [0, 3] [] pcashbookref25_Checkl7))) (.seq (.seq (.keep [] [(0, false)] [] [] [] (.ops pcashbookref25_Checkr8)) (.block 2 (.loop [0, 5] [] pcashbookref25_Checkl13))) (.seq (.seq (.keep [] [(0, false)] [] [] [] (.ops pcashbookref25_Checkr14)) (.cond (.tmp 39) (.seq (.ops pcashbookref25_Checkr15) (.keep [] [(2, false)] [] [] [] .ret)) .skip)) (.seq (.ops pcashbookref25_Checkr16) (.keep [] [(2, false)] [] [] [] .ret))))))
def pcashbookref25_Check : Fd := ⟨1, [.tmp 2], [], pcashbookref25_Checkb⟩
theorem pcashbookref25_Check_ag : agreeF Tryz.prog Tryz.f37 pcashbookref25_Check = true := by kernel_rfl
theorem cashbookref25_Check_ok {l1 : List T_api_Hold} {r : Int} (h : cashbookref25_Check l1 = some r) : Contract Tryz.prog 37 [.pv (.slice (List.map T_api_Hold.pv l1))] [] ⟨.pv (.int .i64 r), [], []⟩ := by
 refine contract_fin hm Tryz.func37 pcashbookref25_Check_ag (by kernel_rfl) ?_
 unfold cashbookref25_Check at h
 refine W.seqOps (RunR.all (by kernel_rfl)) ?_
 refine W.assoc ?_
 refine W.seqOps (RunR.all (by kernel_rfl)) ?_
 replace h := bindS h
 obtain ⟨j2, hj2, h⟩ := h
 refine W.joinOut (j := j2) (o := r) (fun p σ => σ.tidy [] [(0, false)] [] [] [] = ⟨[(0, .pv (.slice (List.map T_api_Hold.pv l1)))], []⟩) ?_ (fun p σj2 hp hsj2 => ?_) (fun p hp => ?_)
 ·refine W.blockLoopO (fun q σ => ((σ.forget [0, 3]).killAll []).tidy [] [(0, false), (3, false)] [] [] [] = ⟨[(0, .pv (.slice (List.map T_api_Hold.pv l1))), (3, .pv (.int .i64 q))], []⟩) hj2 ?_ ?_
  ·show _ = _
   kernel_rfl
  ·intro i3 σj2 oj2 hJj2 h
   refine W.keep hJj2 ?_
   refine W.assoc ?_
   refine W.seqOps (RunR.stat 2 (by kernel_rfl) (RunR.dyn (Step.lenT (f := T_api_Hold.pv) (l := l1) (by kernel_rfl)) (RunR.all (by kernel_rfl)))) ?_
   refine W.seqCond (t := decide (i3 < (l1.length : Int))) (by kernel_rfl) h (fun hc h' => ?_) (fun hc h' => ?_)
   ·replace h := h'
    refine W.seqSkip ?_
    refine W.seqPass ?_
    refine W.assoc ?_
    replace h := bindS h
    obtain ⟨x4, hx4, h⟩ := h
    replace h := bindS h
    obtain ⟨x5, hx5, h⟩ := h
    refine W.seqOps (RunR.stat 2 (by kernel_rfl) (RunR.dyn (Step.idxT (f := T_api_Hold.pv) (l := l1) (n := i3) (e := x4) (k := .i64) (by kernel_rfl) (by kernel_rfl) hx4 (by kernel_rfl)) (RunR.stat 1 (by kernel_rfl) (RunR.cons (tab_cons (on := true) (fun _ => cashbookref25_Right_ok hx5) tab_nil) (Step.call0 (g := 57) (caps := []) (v := .pv (.bool x5)) (by kernel_rfl) (by kernel_rfl) (by kernel_rfl) (tab_hit (by kernel_rfl)) (by kernel_rfl)) (RunR.all (by kernel_rfl)))))) ?_
    refine W.assoc ?_
    refine W.seqOps (RunR.all (by kernel_rfl)) ?_
    refine W.seqCond (t := !x5) (by kernel_rfl) h (fun hc h' => ?_) (fun hc h' => ?_)
    ·replace h := h'
     refine W.assoc ?_
     refine W.seqOps (RunR.all (by kernel_rfl)) ?_
     refine W.seqKeep rfl ?_
     cases h
     exact W.seqRet ((outw_out ret_ne (bout_o ret_ne ret_ne' (fun e => by subst e; exact (fin_ret (by kernel_rfl))))))
    ·replace h := h'
     refine W.seqSkip ?_
     refine W.ops (RunR.all (by kernel_rfl)) ?_
     cases h
     exact (outw_in (by (show _ = _); kernel_rfl))
   ·replace h := h'
    cases h
    exact W.seqExit ((outw_out exit_ne (bout_x (by (show _ = _); kernel_rfl))))
 ·subst hp
  obtain ⟨⟩ := p
  refine W.assoc ?_
  refine W.seqKeep hsj2 ?_
  refine W.seqOps (RunR.all (by kernel_rfl)) ?_
  replace h := bindS h
  obtain ⟨j6, hj6, h⟩ := h
  refine W.joinOut (j := j6) (o := r) (fun p σ => σ.tidy [] [(0, false)] [] [] [] = ⟨[(0, .pv (.slice (List.map T_api_Hold.pv l1)))], []⟩) ?_ (fun p σj6 hp hsj6 => ?_) (fun p hp => ?_)
  ·refine W.blockLoopO (fun q σ => ((σ.forget [0, 5]).killAll []).tidy [] [(0, false), (5, false)] [] [] [] = ⟨[(0, .pv (.slice (List.map T_api_Hold.pv l1))), (5, .pv (.int .i64 q))], []⟩) hj6 ?_ ?_
   ·show _ = _
    kernel_rfl
   ·intro i7 σj6 oj6 hJj6 h
    refine W.keep hJj6 ?_
    refine W.assoc ?_
    refine W.seqOps (RunR.stat 2 (by kernel_rfl) (RunR.dyn (Step.lenT (f := T_api_Hold.pv) (l := l1) (by kernel_rfl)) (RunR.all (by kernel_rfl)))) ?_
    refine W.seqCond (t := decide (i7 < (l1.length : Int))) (by kernel_rfl) h (fun hc h' => ?_) (fun hc h' => ?_)
    ·replace h := h'
     refine W.seqSkip ?_
     refine W.seqPass ?_
     refine W.assoc ?_
     replace h := bindS h
     obtain ⟨x8, hx8, h⟩ := h
     replace h := bindS h
     obtain ⟨x9, hx9, h⟩ := h
     refine W.seqDraw tab_nil (Run.stat 2 (by kernel_rfl) (Run.dyn (Step.idxT (f := T_api_Hold.pv) (l := l1) (n := i7) (e := x8) (k := .i64) (by kernel_rfl) (by kernel_rfl) hx8 (by kernel_rfl)) (Run.stat 5 (by kernel_rfl) (Run.dyn (Step.idxT (f := T_api_Hold.pv) (l := l1) (n := IntKind.wrap .i64 (i7 - 1)) (e := x9) (k := .i64) (by kernel_rfl) (by kernel_rfl) hx9 (by kernel_rfl)) (Run.all (by kernel_rfl)))))) ?_
     refine W.seqCond (t := decide (x8.f_ID ≤ x9.f_ID)) (by kernel_rfl) h (fun hc h' => ?_) (fun hc h' => ?_)
     ·replace h := h'
      refine W.assoc ?_
      refine W.seqOps (RunR.all (by kernel_rfl)) ?_
      refine W.seqKeep rfl ?_
      cases h
      exact W.seqRet ((outw_out ret_ne (bout_o ret_ne ret_ne' (fun e => by subst e; exact (fin_ret (by kernel_rfl))))))
     ·replace h := h'
      refine W.seqSkip ?_
      refine W.ops (RunR.all (by kernel_rfl)) ?_
      cases h
      exact (outw_in (by (show _ = _); kernel_rfl))
    ·replace h := h'
     cases h
     exact W.seqExit ((outw_out exit_ne (bout_x (by (show _ = _); kernel_rfl))))
  ·subst hp
   obtain ⟨⟩ := p
   refine W.assoc ?_
   refine W.seqKeep hsj6 ?_
   refine W.seqOps (RunR.stat 1 (by kernel_rfl) (RunR.dyn (Step.lenT (f := T_api_Hold.pv) (l := l1) (by kernel_rfl)) (RunR.all (by kernel_rfl)))) ?_
   refine W.seqCond (t := decide ((l1.length : Int) > 200)) (by kernel_rfl) h (fun hc h' => ?_) (fun hc h' => ?_)
   ·replace h := h'
    refine W.assoc ?_
    refine W.seqOps (RunR.all (by kernel_rfl)) ?_
    refine W.seqKeep rfl ?_
    cases h
    exact W.seqRet ((fin_ret (by kernel_rfl)))
   ·replace h := h'
    refine W.seqSkip ?_
    refine W.seqOps (RunR.all (by kernel_rfl)) ?_
    refine W.keep rfl ?_
    cases h
    exact W.ret ((fin_ret (by kernel_rfl)))
  ·subst hp
   exact Option.some.inj h
 ·subst hp
  exact Option.some.inj h
def pcashbookref26_limitsr0 : List GOp := [⟨(some 2), none, .mov (.cst (.bool false))⟩]
def pcashbookref26_limitsr1 : List GOp := [⟨(some 5), none, .mov (.tmp 0)⟩, ⟨(some 6), none, .len false (.tmp 5)⟩, ⟨(some 7), none, .mov (.cst (.int .i64 0))⟩]
def pcashbookref26_limitsr2 : List GOp := [⟨(some 8), none, .bin false .lss (.tmp 7) (.tmp 6)⟩]
def pcashbookref26_limitsr3 : List GOp := [⟨(some 9), none, .mov (.tmp 7)⟩, ⟨(some 10), none, .idx 2 (.tmp 5) (.tmp 7)⟩, ⟨(some 11), none, .load true 2 (.tmp 10)⟩, ⟨(some 4), none, .alloc [.pv (.int .i64 0), .pv (.int .i64 0)]⟩, ⟨(some 3), none, .mov (.tmp 9)⟩, ⟨none, none, .store 2 (.tmp 4) (.tmp 11)⟩]
def pcashbookref26_limitsr4 : List GOp := [⟨(some 12), none, .fld 0 (.tmp 4)⟩, ⟨(some 13), none, .load false 1 (.tmp 12)⟩, ⟨(some 14), none, .bin false .lss (.tmp 13) (.cst (.int .i64 1))⟩, ⟨(some 15), none, .mov (.tmp 14)⟩, ⟨(some 16), (some (15, false)), .fld 0 (.tmp 4)⟩, ⟨(some 17), (some (15, false)), .load false 1 (.tmp 16)⟩, ⟨(some 18), (some (15, false)), .bin false .gtr (.tmp 17) (.cst (.int .i64 999))⟩, ⟨(some 19), none, .pick (.tmp 15) (.cst (.bool true)) (.tmp 18)⟩, ⟨(some 20), none, .mov (.tmp 19)⟩, ⟨(some 21), (some (20, false)), .fld 1 (.tmp 4)⟩, ⟨(some 22), (some (20, false)), .load false 1 (.tmp 21)⟩, ⟨(some 23), (some (20, false)), .bin false .lss (.tmp 22) (.cst (.int .i64 0))⟩, ⟨(some 24), none, .pick (.tmp 20) (.cst (.bool true)) (.tmp 23)⟩, ⟨(some 25), none, .mov (.tmp 24)⟩, ⟨(some 26), (some (25, false)), .fld 1 (.tmp 4)⟩, ⟨(some 27), (some (25, false)), .load false 1 (.tmp 26)⟩, ⟨(some 28), (some (25, false)), .bin false .gtr (.tmp 27) (.cst (.int .i64 1000000000000000))⟩, ⟨(some 29), none, .pick (.tmp 25) (.cst (.bool true)) (.tmp 28)⟩, ⟨(some 30), none, .mov (.tmp 29)⟩, ⟨(some 31), (some (30, false)), .mov (.tmp 3)⟩, ⟨(some 32), (some (30, false)), .bin false .gtr (.tmp 31) (.cst (.int .i64 0))⟩, ⟨(some 33), (some (30, false)), .mov (.tmp 32)⟩, ⟨(some 34), (some (33, true)), .mov (.tmp 0)⟩, ⟨(some 35), (some (33, true)), .mov (.tmp 3)⟩, ⟨(some 36), (some (33, true)), .bin false .sub (.tmp 35) (.cst (.int .i64 1))⟩, ⟨(some 37), (some (33, true)), .idx 2 (.tmp 34) (.tmp 36)⟩, ⟨(some 38), (some (33, true)), .fld 0 (.tmp 37)⟩, ⟨(some 39), (some (33, true)), .load false 1 (.tmp 38)⟩, ⟨(some 40), (some (33, true)), .fld 0 (.tmp 4)⟩, ⟨(some 41), (some (33, true)), .load false 1 (.tmp 40)⟩, ⟨(some 42), (some (33, true)), .bin false .geq (.tmp 39) (.tmp 41)⟩, ⟨(some 43), (some (30, false)), .pick (.tmp 33) (.tmp 42) (.cst (.bool false))⟩, ⟨(some 44), none, .pick (.tmp 30) (.cst (.bool true)) (.tmp 43)⟩]
def pcashbookref26_limitsr5 : List GOp := [⟨(some 2), none, .mov (.cst (.bool false))⟩]
def pcashbookref26_limitsr6 : List GOp := [⟨(some 45), none, .bin false .add (.tmp 7) (.cst (.int .i64 1))⟩, ⟨(some 7), none, .mov (.tmp 45)⟩]
def pcashbookref26_limitsl7 : AC := (.keep [] [(0, false), (5, false), (6, false), (7, false)] [] [.loc 4 0] [] (.seq (.ops pcashbookref26_limitsr2) (.seq (.cond (.tmp 8) .skip (.exit 0)) (.seq (.pass 1 (.seq (.ops pcashbookref26_limitsr3) (.seq (.draw [] pcashbookref26_limitsr4) (.cond (.tmp 44) (.seq (.ops pcashbookref26_limitsr5) (.keep [] [(2, false)] [] [.loc 4 0] [] .ret)) .skip)))) (.ops pcashbookref26_limitsr6)))))
def pcashbookref26_limitsr8 : List GOp := [⟨(some 46), none, .mov (.tmp 0)⟩, ⟨(some 47), none, .len false (.tmp 46)⟩, ⟨(some 48), none, .bin false .leq (.tmp 47) (.cst (.int .i64 200))⟩, ⟨(some 2), none, .mov (.tmp 48)⟩]
def pcashbookref26_limitsb : AC := (.seq (.ops pcashbookref26_limitsr0) (.seq (.seq (.ops pcashbookref26_limitsr1) (.block 0 (.loop [0, 5, 6, 7] [] pcashbookref26_limitsl7))) (.seq (.keep [] [(0, false)] [] [] [] (.ops pcashbookref26_limitsr8)) (.keep [] [(2, false)] [] [.loc 4 0] [] .ret))))
def pcashbookref26_limits : Fd := ⟨1, [.tmp 2], [], pcashbookref26_limitsb⟩
theorem pcashbookref26_limits_ag : agreeF Tryz.prog Tryz.f38 pcashbookref26_limits = true := by kernel_rfl
theorem cashbookref26_limits_ok {l1 : List T_api_Limit} {r : Bool} (h : cashbookref26_limits l1 = some r) : Contract Tryz.prog 38 [.pv (.slice (List.map T_api_Limit.pv l1))] [] ⟨.pv (.bool r), [], []⟩ := by
 refine contract_fin hm Tryz.func38 pcashbookref26_limits_ag (by kernel_rfl) ?_
 unfold cashbookref26_limits at h
 refine W.seqOps (RunR.all (by kernel_rfl)) ?_
 refine W.assoc ?_
 refine W.seqOps (RunR.stat 1 (by kernel_rfl) (RunR.dyn (Step.lenT (f := T_api_Limit.pv) (l := l1) (by kernel_rfl)) (RunR.all (by kernel_rfl)))) ?_
 replace h := bindS h
 obtain ⟨j2, hj2, h⟩ := h
 refine W.joinOut (j := j2) (o := r) (fun p σ => σ.tidy [] [(0, false)] [] [] [] = ⟨[(0, .pv (.slice (List.map T_api_Limit.pv l1)))], []⟩) ?_ (fun p σj2 hp hsj2 => ?_) (fun p hp => ?_)
 ·refine W.blockLoopO (fun q σ => ((σ.forget [0, 5, 6, 7]).killAll []).tidy [] [(0, false), (5, false), (6, false), (7, false)] [] [.loc 4 0] [] = ⟨[(0, .pv (.slice (List.map T_api_Limit.pv l1))), (5, .pv (.slice (List.map T_api_Limit.pv l1))), (6, .pv (.int .i64 (l1.length : Int))), (7, .pv (.int .i64 q))], []⟩) hj2 ?_ ?_
  ·show _ = _
   kernel_rfl
  ·intro x3 σj2 oj2 hJj2 h
   refine W.keep hJj2 ?_
   refine W.seqOps (RunR.all (by kernel_rfl)) ?_
   refine W.seqCond (t := decide (x3 < (l1.length : Int))) (by kernel_rfl) h (fun hc h' => ?_) (fun hc h' => ?_)
   ·replace h := h'
    refine W.seqSkip ?_
    refine W.seqPass ?_
    refine W.assoc ?_
    replace h := bindS h
    obtain ⟨x4, hx4, h⟩ := h
    refine W.seqOps (RunR.stat 1 (by kernel_rfl) (RunR.dyn (Step.idxT (f := T_api_Limit.pv) (l := l1) (n := x3) (e := x4) (k := .i64) (by kernel_rfl) (by kernel_rfl) hx4 (by kernel_rfl)) (RunR.all (by kernel_rfl)))) ?_
    refine W.assoc ?_
    replace h := bindS h
    obtain ⟨c5, hc5, h⟩ := h
    replace h := bindS h
    obtain ⟨c6, hc6, h⟩ := h
    replace h := bindS h
    obtain ⟨c7, hc7, h⟩ := h
    replace h := bindS h
    obtain ⟨c8, hc8, h⟩ := h
    replace h := bindS h
    obtain ⟨c9, hc9, h⟩ := h
    replace h := bindS h
    obtain ⟨x10, hx10, h⟩ := h
    refine W.seqDraw tab_nil (Run.stat 3 (by kernel_rfl) (Run.dyn (Step.name (f := eBool) (e := decide (x4.f_Acc < 1)) (c := c5) (by kernel_rfl) hc5) (Run.puts 4 [(19, .pv (.bool (c5 || (decide (x4.f_Acc > 999))))), (18, (bif !c5 then (.pv (.bool (decide (x4.f_Acc > 999)))) else (.tup []))), (17, (bif !c5 then (.pv (.int .i64 x4.f_Acc)) else (.tup []))), (16, (bif !c5 then (.ptr (.loc 4 0) 0) else (.tup [])))] (by cases c5 <;> kernel_rfl) (Run.dyn (Step.name (f := eBool) (e := (c5 || (decide (x4.f_Acc > 999)))) (c := c6) (by kernel_rfl) hc6) (Run.puts 4 [(24, .pv (.bool (c6 || (decide (x4.f_Minor < 0))))), (23, (bif !c6 then (.pv (.bool (decide (x4.f_Minor < 0)))) else (.tup []))), (22, (bif !c6 then (.pv (.int .i64 x4.f_Minor)) else (.tup []))), (21, (bif !c6 then (.ptr (.loc 4 0) 1) else (.tup [])))] (by cases c6 <;> kernel_rfl) (Run.dyn (Step.name (f := eBool) (e := (c6 || (decide (x4.f_Minor < 0)))) (c := c7) (by kernel_rfl) hc7) (Run.puts 4 [(29, .pv (.bool (c7 || (decide (x4.f_Minor > 1000000000000000))))), (28, (bif !c7 then (.pv (.bool (decide (x4.f_Minor > 1000000000000000)))) else (.tup []))), (27, (bif !c7 then (.pv (.int .i64 x4.f_Minor)) else (.tup []))), (26, (bif !c7 then (.ptr (.loc 4 0) 1) else (.tup [])))] (by cases c7 <;> kernel_rfl) (Run.dyn (Step.name (f := eBool) (e := (c7 || (decide (x4.f_Minor > 1000000000000000)))) (c := c8) (by kernel_rfl) hc8) (Run.puts 2 [(32, (bif !c8 then (.pv (.bool (decide (x3 > 0)))) else (.tup []))), (31, (bif !c8 then (.pv (.int .i64 x3)) else (.tup [])))] (by cases c8 <;> kernel_rfl) (Run.dyn (Step.gdG (!c8) (by kernel_rfl) (by
       cases c8
       ·exact .inr ⟨by kernel_rfl, by kernel_rfl, Step.name (f := eBool) (e := decide (x3 > 0)) (c := c9) (by kernel_rfl) hc9⟩
       ·exact .inl ⟨by kernel_rfl, by kernel_rfl⟩)) (Run.puts 3 [(36, (bif ((!c8) && c9) then (.pv (.int .i64 (IntKind.wrap .i64 (x3 - 1)))) else (.tup []))), (35, (bif ((!c8) && c9) then (.pv (.int .i64 x3)) else (.tup []))), (34, (bif ((!c8) && c9) then (.pv (.slice (List.map T_api_Limit.pv l1))) else (.tup [])))] (by cases c8 <;> cases c9 <;> kernel_rfl) (Run.dyn (Step.gdG ((!c8) && c9) (by kernel_rfl) (by
       cases c8
       ·cases c9
        ·exact .inl ⟨by kernel_rfl, by kernel_rfl⟩
        ·exact .inr ⟨by kernel_rfl, by kernel_rfl, Step.idxT (f := T_api_Limit.pv) (l := l1) (n := IntKind.wrap .i64 (x3 - 1)) (e := x10) (k := .i64) (by kernel_rfl) (by kernel_rfl) hx10 (by kernel_rfl)⟩
       ·cases c9
        ·exact .inl ⟨by kernel_rfl, by kernel_rfl⟩
        ·exact .inl ⟨by kernel_rfl, by kernel_rfl⟩)) (Run.puts 7 [(44, .pv (.bool (c8 || (c9 && (decide (x10.f_Acc ≥ x4.f_Acc)))))), (43, (bif !c8 then (.pv (.bool (c9 && (decide (x10.f_Acc ≥ x4.f_Acc))))) else (.tup []))), (42, (bif ((!c8) && c9) then (.pv (.bool (decide (x10.f_Acc ≥ x4.f_Acc)))) else (.tup []))), (41, (bif ((!c8) && c9) then (.pv (.int .i64 x4.f_Acc)) else (.tup []))), (40, (bif ((!c8) && c9) then (.ptr (.loc 4 0) 0) else (.tup []))), (39, (bif ((!c8) && c9) then (.pv (.int .i64 x10.f_Acc)) else (.tup []))), (38, (bif ((!c8) && c9) then (.ipv (T_api_Limit.pv x10) 0) else (.tup [])))] (by cases c8 <;> cases c9 <;> kernel_rfl) ((Run.nil))))))))))))))) ?_
    refine W.seqCond (t := (c8 || (c9 && (decide (x10.f_Acc ≥ x4.f_Acc))))) (by kernel_rfl) h (fun hc h' => ?_) (fun hc h' => ?_)
    ·replace h := h'
     refine W.assoc ?_
     refine W.seqOps (RunR.all (by kernel_rfl)) ?_
     refine W.seqKeep rfl ?_
     cases h
     exact W.seqRet ((outw_out ret_ne (bout_o ret_ne ret_ne' (fun e => by subst e; exact (fin_ret (by kernel_rfl))))))
    ·replace h := h'
     refine W.seqSkip ?_
     refine W.ops (RunR.all (by kernel_rfl)) ?_
     cases h
     exact (outw_in (by (show _ = _); kernel_rfl))
   ·replace h := h'
    cases h
    exact W.seqExit ((outw_out exit_ne (bout_x (by (show _ = _); kernel_rfl))))
 ·subst hp
  obtain ⟨⟩ := p
  refine W.seqKeep hsj2 ?_
  refine W.seqOps (RunR.stat 1 (by kernel_rfl) (RunR.dyn (Step.lenT (f := T_api_Limit.pv) (l := l1) (by kernel_rfl)) (RunR.all (by kernel_rfl)))) ?_
  refine W.keep rfl ?_
  cases h
  exact W.ret ((fin_ret (by kernel_rfl)))
 ·subst hp
  exact Option.some.inj h
def pcashbookref26_Rightr0 : List GOp := [⟨(some 1), none, .box (.tmp 0)⟩, ⟨(some 2), none, .mov (.cst (.bool false))⟩]
def pcashbookref26_Rightr1 : List GOp := [⟨(some 3), none, .fld 0 (.tmp 1)⟩, ⟨(some 4), none, .load true 2 (.tmp 3)⟩, ⟨(some 5), none, .call 0 0 (.cst (.fn 36)) [(.tmp 4)] [] []⟩, ⟨(some 6), none, .mov (.tmp 5)⟩, ⟨(some 7), (some (6, true)), .fld 2 (.tmp 1)⟩, ⟨(some 8), (some (6, true)), .load false 1 (.tmp 7)⟩, ⟨(some 9), (some (6, true)), .len false (.tmp 8)⟩, ⟨(some 10), (some (6, true)), .bin false .leq (.tmp 9) (.cst (.int .i64 2000))⟩, ⟨(some 11), none, .pick (.tmp 6) (.tmp 10) (.cst (.bool false))⟩, ⟨(some 12), none, .mov (.tmp 11)⟩, ⟨(some 13), (some (12, true)), .fld 3 (.tmp 1)⟩, ⟨(some 14), (some (12, true)), .load false 1 (.tmp 13)⟩, ⟨(some 15), (some (12, true)), .call 0 0 (.cst (.fn 37)) [(.tmp 14)] [] []⟩, ⟨(some 16), (some (12, true)), .bin false .eql (.tmp 15) (.cst (.int .i64 0))⟩, ⟨(some 17), none, .pick (.tmp 12) (.tmp 16) (.cst (.bool false))⟩, ⟨(some 18), none, .mov (.tmp 17)⟩, ⟨(some 19), (some (18, true)), .fld 4 (.tmp 1)⟩, ⟨(some 20), (some (18, true)), .load false 1 (.tmp 19)⟩, ⟨(some 21), (some (18, true)), .call 0 0 (.cst (.fn 38)) [(.tmp 20)] [] []⟩, ⟨(some 22), none, .pick (.tmp 18) (.tmp 21) (.cst (.bool false))⟩, ⟨(some 2), none, .mov (.tmp 22)⟩]
def pcashbookref26_Rightb : AC := (.seq (.ops pcashbookref26_Rightr0) (.seq (.ops pcashbookref26_Rightr1) (.keep [] [(2, false)] [] [.loc 1 0] [] .ret)))
def pcashbookref26_Right : Fd := ⟨1, [.tmp 2], [], pcashbookref26_Rightb⟩
theorem pcashbookref26_Right_ag : agreeF Tryz.prog Tryz.f12 pcashbookref26_Right = true := by kernel_rfl
theorem cashbookref26_Right_ok {t1 : T_api_Till} {r : Bool} (h : cashbookref26_Right t1 = some r) : Contract Tryz.prog 12 [.pv (T_api_Till.pv t1)] [] ⟨.pv (.bool r), [], []⟩ := by
 refine contract_fin hm Tryz.func12 pcashbookref26_Right_ag (by kernel_rfl) ?_
 unfold cashbookref26_Right at h
 refine W.seqOps (RunR.all (by kernel_rfl)) ?_
 replace h := bindS h
 obtain ⟨x2, hx2, h⟩ := h
 replace h := bindS h
 obtain ⟨c3, hc3, h⟩ := h
 replace h := bindS h
 obtain ⟨x4, hx4, h⟩ := h
 replace h := bindS h
 obtain ⟨c5, hc5, h⟩ := h
 replace h := bindS h
 obtain ⟨x6, hx6, h⟩ := h
 refine W.seqOps (RunR.stat 2 (by kernel_rfl) (RunR.cons (tab_cons (on := true) (fun _ => cashbookref18_Right_ok hx2) tab_nil) (Step.call0 (g := 36) (caps := []) (v := .pv (.bool x2)) (by kernel_rfl) (by kernel_rfl) (by kernel_rfl) (tab_hit (by kernel_rfl)) (by kernel_rfl)) (RunR.stat 1 (by kernel_rfl) (RunR.puts 2 [(8, (bif x2 then (.pv (.slice (List.map T_api_Posting.pv t1.f_L))) else (.tup []))), (7, (bif x2 then (.ptr (.loc 1 0) 2) else (.tup [])))] (by cases x2 <;> kernel_rfl) (RunR.dyn (Step.gdG x2 (by kernel_rfl) (by
    cases x2
    ·exact .inl ⟨by kernel_rfl, by kernel_rfl⟩
    ·exact .inr ⟨by kernel_rfl, by kernel_rfl, Step.lenT (f := T_api_Posting.pv) (l := t1.f_L) (by kernel_rfl)⟩)) (RunR.puts 2 [(11, .pv (.bool (x2 && (decide ((t1.f_L.length : Int) ≤ 2000))))), (10, (bif x2 then (.pv (.bool (decide ((t1.f_L.length : Int) ≤ 2000)))) else (.tup [])))] (by cases x2 <;> kernel_rfl) (RunR.dyn (Step.name (f := eBool) (e := (x2 && (decide ((t1.f_L.length : Int) ≤ 2000)))) (c := c3) (by kernel_rfl) hc3) (RunR.puts 2 [(14, (bif c3 then (.pv (.slice (List.map T_api_Hold.pv t1.f_Holds))) else (.tup []))), (13, (bif c3 then (.ptr (.loc 1 0) 3) else (.tup [])))] (by cases c3 <;> kernel_rfl) (RunR.cons (tab_cons (on := c3) (fun hg => cashbookref25_Check_ok (gdO_at hg hx4)) tab_nil) (Step.gdG c3 (by kernel_rfl) (by
    cases c3
    ·exact .inl ⟨by kernel_rfl, by kernel_rfl⟩
    ·exact .inr ⟨by kernel_rfl, by kernel_rfl, Step.call0 (g := 37) (caps := []) (v := .pv (.int .i64 x4)) (by kernel_rfl) (by kernel_rfl) (by kernel_rfl) (tab_hit (by kernel_rfl)) (by kernel_rfl)⟩)) (RunR.puts 2 [(17, .pv (.bool (c3 && (x4 == 0)))), (16, (bif c3 then (.pv (.bool (x4 == 0))) else (.tup [])))] (by cases c3 <;> kernel_rfl) (RunR.dyn (Step.name (f := eBool) (e := (c3 && (x4 == 0))) (c := c5) (by kernel_rfl) hc5) (RunR.puts 2 [(20, (bif c5 then (.pv (.slice (List.map T_api_Limit.pv t1.f_Limits))) else (.tup []))), (19, (bif c5 then (.ptr (.loc 1 0) 4) else (.tup [])))] (by cases c5 <;> kernel_rfl) (RunR.cons (tab_cons (on := c5) (fun hg => cashbookref26_limits_ok (gdO_at hg hx6)) tab_nil) (Step.gdG c5 (by kernel_rfl) (by
    cases c5
    ·exact .inl ⟨by kernel_rfl, by kernel_rfl⟩
    ·exact .inr ⟨by kernel_rfl, by kernel_rfl, Step.call0 (g := 38) (caps := []) (v := .pv (.bool x6)) (by kernel_rfl) (by kernel_rfl) (by kernel_rfl) (tab_hit (by kernel_rfl)) (by kernel_rfl)⟩)) (RunR.puts 1 [(22, .pv (.bool (c5 && x6)))] (by cases c5 <;> kernel_rfl) (RunR.all (by kernel_rfl)))))))))))))))) ?_
 refine W.keep rfl ?_
 cases h
 exact W.ret ((fin_ret (by kernel_rfl)))
def pcashbooklaw26_oner0 : List GOp := [⟨(some 0), none, .alloc [.nils, .nils, .nils, .nils, .nils]⟩]
def pcashbooklaw26_oner1 : List GOp := [⟨(some 1), none, .build [.pv (.int .i64 0), .pv (.int .i64 0), .pv (.int .i64 0), .pv (.int .i64 0), .pv (.int .i64 0), .pv (.int .i64 0), .pv (.int .i32 0), .pv (.int .i32 0)] [(0, 1, (.cst (.int .i64 5))), (1, 1, (.cst (.int .i64 1))), (7, 1, (.cst (.int .i32 50000)))]⟩, ⟨(some 2), none, .lit false 8 [(.tmp 1)]⟩, ⟨(some 3), none, .build [.nils, .nils] [(1, 1, (.tmp 2))]⟩, ⟨(some 4), none, .build [.pv (.int .i64 0), .pv (.int .i64 0)] [(1, 1, (.cst (.int .i64 (-100))))]⟩, ⟨(some 5), none, .build [.pv (.int .i64 0), .pv (.int .i64 0), .pv (.int .i64 0)] [(0, 1, (.cst (.int .i64 5))), (1, 2, (.tmp 4))]⟩, ⟨(some 6), none, .lit false 3 [(.tmp 5)]⟩, ⟨(some 7), none, .build [.pv (.int .i64 0), .pv (.int .i32 0), .pv (.int .i32 0), .nils, .pv (.int .i64 0), .pv (.int .i64 0), .pv (.str [])] [(2, 1, (.cst (.int .i32 3))), (3, 1, (.tmp 6))]⟩, ⟨(some 8), none, .lit false 7 [(.tmp 7)]⟩, ⟨(some 9), none, .build [.pv (.int .i64 0), .pv (.int .i64 0)] [(1, 1, (.cst (.int .i64 30)))]⟩, ⟨(some 10), none, .build [.pv (.int .i64 0), .pv (.int .i64 0), .pv (.int .i64 0), .pv (.int .i64 0), .pv (.int .i64 0), .pv (.int .i32 0), .pv (.int .i32 0), .pv (.int .i64 0), .pv (.bool false)] [(0, 1, (.cst (.int .i64 1))), (1, 1, (.cst (.int .i64 5))), (2, 2, (.tmp 9)), (4, 1, (.cst (.int .i64 2))), (5, 1, (.cst (.int .i32 3))), (6, 1, (.cst (.int .i32 9)))]⟩, ⟨(some 11), none, .lit false 9 [(.tmp 10)]⟩, ⟨(some 12), none, .build [.nils, .nils, .nils, .nils, .nils] [(0, 2, (.tmp 3)), (2, 1, (.tmp 8)), (3, 1, (.tmp 11))]⟩, ⟨none, none, .store 5 (.tmp 0) (.tmp 12)⟩]
def pcashbooklaw26_oneb : AC := (.seq (.ops pcashbooklaw26_oner0) (.seq (.ops pcashbooklaw26_oner1) (.keep [] [(0, false)] [(.loc 0 0, true)] [] [] .ret)))
def pcashbooklaw26_one : Fd := ⟨0, [.cell 0 true 5], [], pcashbooklaw26_oneb⟩
theorem pcashbooklaw26_one_ag : agreeF Tryz.prog Tryz.f39 pcashbooklaw26_one = true := by kernel_rfl
theorem cashbooklaw26_one_ok {r : T_api_Till} (h : cashbooklaw26_one = some r) : Contract Tryz.prog 39 [] [] ⟨.pv (T_api_Till.pv r), [], []⟩ := by
 refine contract_fin hm Tryz.func39 pcashbooklaw26_one_ag (by kernel_rfl) ?_
 unfold cashbooklaw26_one at h
 refine W.seqOps (RunR.all (by kernel_rfl)) ?_
 refine W.seqOps (RunR.all (by kernel_rfl)) ?_
 refine W.keep rfl ?_
 cases h
 exact W.ret ((fin_ret (by kernel_rfl)))
def pcashbooklaw26_aliver0 : List GOp := [⟨(some 0), none, .mov (.cst (.bool false))⟩]
def pcashbooklaw26_aliver1 : List GOp := [⟨(some 6), none, .call 0 0 (.cst (.fn 39)) [] [] []⟩, ⟨(some 7), none, .call 0 0 (.cst (.fn 9)) [(.tmp 6), (.cst (.int .i64 5)), (.cst (.int .i32 4)), (.cst (.int .i64 0))] [] []⟩, ⟨(some 5), none, .mov (.tmp 7)⟩, ⟨(some 8), none, .ext 0 (.tmp 5)⟩, ⟨(some 9), none, .ext 1 (.tmp 5)⟩, ⟨(some 1), none, .mov (.tmp 8)⟩, ⟨(some 2), none, .mov (.tmp 9)⟩]
def pcashbooklaw26_aliver2 : List GOp := [⟨(some 11), none, .call 0 0 (.cst (.fn 39)) [] [] []⟩, ⟨(some 12), none, .call 0 0 (.cst (.fn 9)) [(.tmp 11), (.cst (.int .i64 5)), (.cst (.int .i32 4)), (.cst (.int .i64 3))] [] []⟩, ⟨(some 10), none, .mov (.tmp 12)⟩, ⟨(some 13), none, .ext 0 (.tmp 10)⟩, ⟨(some 14), none, .ext 1 (.tmp 10)⟩, ⟨(some 3), none, .mov (.tmp 13)⟩, ⟨(some 4), none, .mov (.tmp 14)⟩]
def pcashbooklaw26_aliver3 : List GOp := [⟨(some 15), none, .mov (.tmp 2)⟩, ⟨(some 16), none, .bin false .eql (.tmp 15) (.cst (.int .i64 0))⟩, ⟨(some 17), none, .mov (.tmp 16)⟩, ⟨(some 18), (some (17, true)), .mov (.tmp 4)⟩, ⟨(some 19), (some (17, true)), .bin false .eql (.tmp 18) (.cst (.int .i64 0))⟩, ⟨(some 20), none, .pick (.tmp 17) (.tmp 19) (.cst (.bool false))⟩, ⟨(some 21), none, .mov (.tmp 20)⟩, ⟨(some 22), (some (21, true)), .mov (.tmp 1)⟩, ⟨(some 23), (some (21, true)), .bin false .eql (.tmp 22) (.cst (.int .i64 70))⟩, ⟨(some 24), none, .pick (.tmp 21) (.tmp 23) (.cst (.bool false))⟩, ⟨(some 25), none, .mov (.tmp 24)⟩, ⟨(some 26), (some (25, true)), .mov (.tmp 3)⟩, ⟨(some 27), (some (25, true)), .bin false .eql (.tmp 26) (.cst (.int .i64 100))⟩, ⟨(some 28), none, .pick (.tmp 25) (.tmp 27) (.cst (.bool false))⟩, ⟨(some 0), none, .mov (.tmp 28)⟩]
def pcashbooklaw26_aliveb : AC := (.seq (.ops pcashbooklaw26_aliver0) (.seq (.ops pcashbooklaw26_aliver1) (.seq (.ops pcashbooklaw26_aliver2) (.seq (.ops pcashbooklaw26_aliver3) (.keep [] [(0, false)] [] [] [] .ret)))))
def pcashbooklaw26_alive : Fd := ⟨0, [.tmp 0], [], pcashbooklaw26_aliveb⟩
theorem pcashbooklaw26_alive_ag : agreeF Tryz.prog Tryz.f13 pcashbooklaw26_alive = true := by kernel_rfl
theorem cashbooklaw26_alive_ok {r : Bool} (h : cashbooklaw26_alive = some r) : Contract Tryz.prog 13 [] [] ⟨.pv (.bool r), [], []⟩ := by
 refine contract_fin hm Tryz.func13 pcashbooklaw26_alive_ag (by kernel_rfl) ?_
 unfold cashbooklaw26_alive at h
 refine W.seqOps (RunR.all (by kernel_rfl)) ?_
 replace h := bindS h
 obtain ⟨x1, hx1, h⟩ := h
 replace h := bindS h
 obtain ⟨x2, hx2, h⟩ := h
 refine W.seqOps (RunR.cons (tab_cons (on := true) (fun _ => cashbooklaw26_one_ok hx1) tab_nil) (Step.call0 (g := 39) (caps := []) (v := .pv (T_api_Till.pv x1)) (by kernel_rfl) (by kernel_rfl) (by kernel_rfl) (tab_hit (by kernel_rfl)) (by kernel_rfl)) (RunR.cons (tab_cons (on := true) (fun _ => avail_Free_ok hx2) tab_nil) (Step.call0 (g := 9) (caps := []) (v := .tup [.pv (.int .i64 x2.1), .pv (.int .i64 x2.2)]) (by kernel_rfl) (by kernel_rfl) (by kernel_rfl) (tab_hit (by kernel_rfl)) (by kernel_rfl)) (RunR.all (by kernel_rfl)))) ?_
 replace h := bindS h
 obtain ⟨x3, hx3, h⟩ := h
 replace h := bindS h
 obtain ⟨x4, hx4, h⟩ := h
 refine W.seqOps (RunR.cons (tab_cons (on := true) (fun _ => cashbooklaw26_one_ok hx3) tab_nil) (Step.call0 (g := 39) (caps := []) (v := .pv (T_api_Till.pv x3)) (by kernel_rfl) (by kernel_rfl) (by kernel_rfl) (tab_hit (by kernel_rfl)) (by kernel_rfl)) (RunR.cons (tab_cons (on := true) (fun _ => avail_Free_ok hx4) tab_nil) (Step.call0 (g := 9) (caps := []) (v := .tup [.pv (.int .i64 x4.1), .pv (.int .i64 x4.2)]) (by kernel_rfl) (by kernel_rfl) (by kernel_rfl) (tab_hit (by kernel_rfl)) (by kernel_rfl)) (RunR.all (by kernel_rfl)))) ?_
 replace h := bindS h
 obtain ⟨c5, hc5, h⟩ := h
 replace h := bindS h
 obtain ⟨c6, hc6, h⟩ := h
 replace h := bindS h
 obtain ⟨c7, hc7, h⟩ := h
 refine W.seqOps (RunR.stat 2 (by kernel_rfl) (RunR.dyn (Step.name (f := eBool) (e := (x2.2 == 0)) (c := c5) (by kernel_rfl) hc5) (RunR.puts 3 [(20, .pv (.bool (c5 && (x4.2 == 0)))), (19, (bif c5 then (.pv (.bool (x4.2 == 0))) else (.tup []))), (18, (bif c5 then (.pv (.int .i64 x4.2)) else (.tup [])))] (by cases c5 <;> kernel_rfl) (RunR.dyn (Step.name (f := eBool) (e := (c5 && (x4.2 == 0))) (c := c6) (by kernel_rfl) hc6) (RunR.puts 3 [(24, .pv (.bool (c6 && (x2.1 == 70)))), (23, (bif c6 then (.pv (.bool (x2.1 == 70))) else (.tup []))), (22, (bif c6 then (.pv (.int .i64 x2.1)) else (.tup [])))] (by cases c6 <;> kernel_rfl) (RunR.dyn (Step.name (f := eBool) (e := (c6 && (x2.1 == 70))) (c := c7) (by kernel_rfl) hc7) (RunR.puts 3 [(28, .pv (.bool (c7 && (x4.1 == 100)))), (27, (bif c7 then (.pv (.bool (x4.1 == 100))) else (.tup []))), (26, (bif c7 then (.pv (.int .i64 x4.1)) else (.tup [])))] (by cases c7 <;> kernel_rfl) (RunR.all (by kernel_rfl))))))))) ?_
 refine W.keep rfl ?_
 cases h
 exact W.ret ((fin_ret (by kernel_rfl)))
def pcashbookref18_Placer0 : List GOp := [⟨(some 4), none, .mov (.cst (.int .i64 0))⟩]
def pcashbookref18_Placer1 : List GOp := [⟨(some 7), none, .mov (.tmp 0)⟩, ⟨(some 8), none, .len false (.tmp 7)⟩, ⟨(some 9), none, .mov (.cst (.int .i64 0))⟩]
def pcashbookref18_Placer2 : List GOp := [⟨(some 10), none, .bin false .lss (.tmp 9) (.tmp 8)⟩]
def pcashbookref18_Placer3 : List GOp := [⟨(some 11), none, .mov (.tmp 9)⟩, ⟨(some 12), none, .idx 8 (.tmp 7) (.tmp 9)⟩, ⟨(some 13), none, .load true 8 (.tmp 12)⟩, ⟨(some 6), none, .alloc [.pv (.int .i64 0), .pv (.int .i64 0), .pv (.int .i64 0), .pv (.int .i64 0), .pv (.int .i64 0), .pv (.int .i64 0), .pv (.int .i32 0), .pv (.int .i32 0)]⟩, ⟨(some 5), none, .mov (.tmp 11)⟩, ⟨none, none, .store 8 (.tmp 6) (.tmp 13)⟩]
def pcashbookref18_Placer4 : List GOp := [⟨(some 14), none, .fld 0 (.tmp 6)⟩, ⟨(some 15), none, .load false 1 (.tmp 14)⟩, ⟨(some 16), none, .mov (.tmp 1)⟩, ⟨(some 17), none, .bin false .eql (.tmp 15) (.tmp 16)⟩]
def pcashbookref18_Placer5 : List GOp := [⟨(some 18), none, .mov (.tmp 5)⟩, ⟨(some 4), none, .mov (.tmp 18)⟩]
def pcashbookref18_Placer6 : List GOp := [⟨(some 19), none, .bin false .add (.tmp 9) (.cst (.int .i64 1))⟩, ⟨(some 9), none, .mov (.tmp 19)⟩]
def pcashbookref18_Placel7 : AC := (.keep [] [(1, false), (7, false), (8, false), (9, false)] [] [.loc 6 0] [] (.seq (.ops pcashbookref18_Placer2) (.seq (.cond (.tmp 10) .skip (.exit 0)) (.seq (.pass 1 (.seq (.ops pcashbookref18_Placer3) (.seq (.ops pcashbookref18_Placer4) (.cond (.tmp 17) (.seq (.ops pcashbookref18_Placer5) (.keep [] [(4, false)] [] [.loc 6 0] [] .ret)) .skip)))) (.ops pcashbookref18_Placer6)))))
def pcashbookref18_Placer8 : List GOp := [⟨(some 4), none, .mov (.cst (.int .i64 (-1)))⟩]
def pcashbookref18_Placeb : AC := (.seq (.ops pcashbookref18_Placer0) (.seq (.seq (.ops pcashbookref18_Placer1) (.block 0 (.loop [1, 7, 8, 9] [] pcashbookref18_Placel7))) (.seq (.keep [] [] [] [] [] (.ops pcashbookref18_Placer8)) (.keep [] [(4, false)] [] [.loc 6 0] [] .ret))))
def pcashbookref18_Place : Fd := ⟨2, [.tmp 4], [], pcashbookref18_Placeb⟩
theorem pcashbookref18_Place_ag : agreeF Tryz.prog Tryz.f40 pcashbookref18_Place = true := by kernel_rfl
theorem cashbookref18_Place_ok {l1 : List T_api_Record} {a2 : Int} {r : Int} (h : cashbookref18_Place l1 a2 = some r) : Contract Tryz.prog 40 [.pv (.slice (List.map T_api_Record.pv l1)), .pv (.int .i64 a2)] [] ⟨.pv (.int .i64 r), [], []⟩ := by
 refine contract_fin hm Tryz.func40 pcashbookref18_Place_ag (by kernel_rfl) ?_
 unfold cashbookref18_Place at h
 refine W.seqOps (RunR.all (by kernel_rfl)) ?_
 refine W.assoc ?_
 refine W.seqOps (RunR.stat 1 (by kernel_rfl) (RunR.dyn (Step.lenT (f := T_api_Record.pv) (l := l1) (by kernel_rfl)) (RunR.all (by kernel_rfl)))) ?_
 replace h := bindS h
 obtain ⟨j3, hj3, h⟩ := h
 refine W.joinOut (j := j3) (o := r) (fun p σ => σ.tidy [] [] [] [] [] = ⟨[], []⟩) ?_ (fun p σj3 hp hsj3 => ?_) (fun p hp => ?_)
 ·refine W.blockLoopO (fun q σ => ((σ.forget [1, 7, 8, 9]).killAll []).tidy [] [(1, false), (7, false), (8, false), (9, false)] [] [.loc 6 0] [] = ⟨[(1, .pv (.int .i64 a2)), (7, .pv (.slice (List.map T_api_Record.pv l1))), (8, .pv (.int .i64 (l1.length : Int))), (9, .pv (.int .i64 q))], []⟩) hj3 ?_ ?_
  ·show _ = _
   kernel_rfl
  ·intro x4 σj3 oj3 hJj3 h
   refine W.keep hJj3 ?_
   refine W.seqOps (RunR.all (by kernel_rfl)) ?_
   refine W.seqCond (t := decide (x4 < (l1.length : Int))) (by kernel_rfl) h (fun hc h' => ?_) (fun hc h' => ?_)
   ·replace h := h'
    refine W.seqSkip ?_
    refine W.seqPass ?_
    refine W.assoc ?_
    replace h := bindS h
    obtain ⟨x5, hx5, h⟩ := h
    refine W.seqOps (RunR.stat 1 (by kernel_rfl) (RunR.dyn (Step.idxT (f := T_api_Record.pv) (l := l1) (n := x4) (e := x5) (k := .i64) (by kernel_rfl) (by kernel_rfl) hx5 (by kernel_rfl)) (RunR.all (by kernel_rfl)))) ?_
    refine W.assoc ?_
    refine W.seqOps (RunR.all (by kernel_rfl)) ?_
    refine W.seqCond (t := (x5.f_Acc == a2)) (by kernel_rfl) h (fun hc h' => ?_) (fun hc h' => ?_)
    ·replace h := h'
     refine W.assoc ?_
     refine W.seqOps (RunR.all (by kernel_rfl)) ?_
     refine W.seqKeep rfl ?_
     cases h
     exact W.seqRet ((outw_out ret_ne (bout_o ret_ne ret_ne' (fun e => by subst e; exact (fin_ret (by kernel_rfl))))))
    ·replace h := h'
     refine W.seqSkip ?_
     refine W.ops (RunR.all (by kernel_rfl)) ?_
     cases h
     exact (outw_in (by (show _ = _); kernel_rfl))
   ·replace h := h'
    cases h
    exact W.seqExit ((outw_out exit_ne (bout_x (by (show _ = _); kernel_rfl))))
 ·subst hp
  obtain ⟨⟩ := p
  refine W.seqKeep hsj3 ?_
  refine W.seqOps (RunR.all (by kernel_rfl)) ?_
  refine W.keep rfl ?_
  cases h
  exact W.ret ((fin_ret (by kernel_rfl)))
 ·subst hp
  exact Option.some.inj h
def pcashbookref21_Legsr0 : List GOp := [⟨(some 6), none, .mov .nils⟩]
def pcashbookref21_Legsr1 : List GOp := [⟨(some 12), none, .lit false 3 []⟩, ⟨(some 7), none, .mov (.tmp 12)⟩]
def pcashbookref21_Legsr2 : List GOp := [⟨(some 13), none, .mov (.tmp 0)⟩, ⟨(some 14), none, .len false (.tmp 13)⟩, ⟨(some 15), none, .mov (.cst (.int .i64 0))⟩]
def pcashbookref21_Legsr3 : List GOp := [⟨(some 16), none, .bin false .lss (.tmp 15) (.tmp 14)⟩]
def pcashbookref21_Legsr4 : List GOp := [⟨(some 17), none, .idx 7 (.tmp 13) (.tmp 15)⟩, ⟨(some 18), none, .load true 7 (.tmp 17)⟩, ⟨(some 9), none, .alloc [.pv (.int .i64 0), .pv (.int .i32 0), .pv (.int .i32 0), .nils, .pv (.int .i64 0), .pv (.int .i64 0), .pv (.str [])]⟩, ⟨none, none, .store 7 (.tmp 9) (.tmp 18)⟩]
def pcashbookref21_Legsr5 : List GOp := [⟨(some 19), none, .fld 3 (.tmp 9)⟩, ⟨(some 20), none, .load false 1 (.tmp 19)⟩, ⟨(some 21), none, .len false (.tmp 20)⟩, ⟨(some 22), none, .mov (.cst (.int .i64 0))⟩]
def pcashbookref21_Legsr6 : List GOp := [⟨(some 23), none, .bin false .lss (.tmp 22) (.tmp 21)⟩]
def pcashbookref21_Legsr7 : List GOp := [⟨(some 24), none, .idx 3 (.tmp 20) (.tmp 22)⟩, ⟨(some 25), none, .load true 3 (.tmp 24)⟩, ⟨(some 11), none, .alloc [.pv (.int .i64 0), .pv (.int .i64 0), .pv (.int .i64 0)]⟩, ⟨none, none, .store 3 (.tmp 11) (.tmp 25)⟩]
def pcashbookref21_Legsr8 : List GOp := [⟨(some 26), none, .fld 0 (.tmp 11)⟩, ⟨(some 27), none, .load false 1 (.tmp 26)⟩, ⟨(some 28), none, .mov (.tmp 1)⟩, ⟨(some 29), none, .bin false .eql (.tmp 27) (.tmp 28)⟩, ⟨(some 30), none, .mov (.tmp 29)⟩, ⟨(some 31), (some (30, true)), .fld 1 (.tmp 11)⟩, ⟨(some 32), (some (30, true)), .fld 0 (.tmp 31)⟩, ⟨(some 33), (some (30, true)), .load false 1 (.tmp 32)⟩, ⟨(some 34), (some (30, true)), .mov (.tmp 2)⟩, ⟨(some 35), (some (30, true)), .bin false .eql (.tmp 33) (.tmp 34)⟩, ⟨(some 36), none, .pick (.tmp 30) (.tmp 35) (.cst (.bool false))⟩]
def pcashbookref21_Legsr9 : List GOp := [⟨(some 37), none, .mov (.tmp 7)⟩, ⟨(some 38), none, .fld 1 (.tmp 9)⟩, ⟨(some 39), none, .load false 1 (.tmp 38)⟩, ⟨(some 40), none, .fld 2 (.tmp 9)⟩, ⟨(some 41), none, .load false 1 (.tmp 40)⟩, ⟨(some 42), none, .fld 1 (.tmp 11)⟩, ⟨(some 43), none, .fld 1 (.tmp 42)⟩, ⟨(some 44), none, .load false 1 (.tmp 43)⟩, ⟨(some 45), none, .build [.pv (.int .i32 0), .pv (.int .i32 0), .pv (.int .i64 0)] [(0, 1, (.tmp 39)), (1, 1, (.tmp 41)), (2, 1, (.tmp 44))]⟩, ⟨(some 46), none, .lit false 3 [(.tmp 45)]⟩, ⟨(some 47), none, .append 7 3 16 (.tmp 37) (.tmp 46)⟩, ⟨(some 7), none, .mov (.tmp 47)⟩]
def pcashbookref21_Legsr10 : List GOp := [⟨(some 48), none, .bin false .add (.tmp 22) (.cst (.int .i64 1))⟩, ⟨(some 22), none, .mov (.tmp 48)⟩]
def pcashbookref21_Legsl11 : AC := (.keep [] [(1, false), (2, false), (7, false), (9, false), (13, false), (14, false), (15, false), (20, false), (21, false), (22, false)] [(.loc 7 0, false), (.loc 9 0, false)] [] [] (.seq (.ops pcashbookref21_Legsr6) (.seq (.cond (.tmp 23) .skip (.exit 2)) (.seq (.pass 3 (.seq (.ops pcashbookref21_Legsr7) (.seq (.ops pcashbookref21_Legsr8) (.cond (.tmp 36) (.ops pcashbookref21_Legsr9) .skip)))) (.keep [] [(1, false), (2, false), (7, false), (9, false), (13, false), (14, false), (15, false), (20, false), (21, false), (22, false)] [(.loc 7 0, false), (.loc 9 0, false)] [.loc 11 0] [] (.ops pcashbookref21_Legsr10))))))
def pcashbookref21_Legsr12 : List GOp := [⟨(some 49), none, .bin false .add (.tmp 15) (.cst (.int .i64 1))⟩, ⟨(some 15), none, .mov (.tmp 49)⟩]
def pcashbookref21_Legsl13 : AC := (.keep [] [(1, false), (2, false), (7, false), (13, false), (14, false), (15, false)] [(.loc 7 0, false)] [] [.slot 7 (.loc 7 0) 3] (.seq (.ops pcashbookref21_Legsr3) (.seq (.cond (.tmp 16) .skip (.exit 0)) (.seq (.pass 1 (.seq (.ops pcashbookref21_Legsr4) (.seq (.ops pcashbookref21_Legsr5) (.block 2 (.loop [1, 2, 7, 9, 13, 14, 15, 20, 21, 22] [] pcashbookref21_Legsl11))))) (.keep [] [(1, false), (2, false), (7, false), (13, false), (14, false), (15, false)] [(.loc 7 0, false)] [.loc 9 0] [] (.ops pcashbookref21_Legsr12))))))
def pcashbookref21_Legsr14 : List GOp := [⟨(some 50), none, .mov (.tmp 7)⟩, ⟨(some 6), none, .mov (.tmp 50)⟩]
def pcashbookref21_Legsb : AC := (.seq (.ops pcashbookref21_Legsr0) (.seq (.ops pcashbookref21_Legsr1) (.seq (.seq (.ops pcashbookref21_Legsr2) (.block 0 (.loop [1, 2, 7, 13, 14, 15] [] pcashbookref21_Legsl13))) (.seq (.keep [.loc 7 0] [(7, true)] [] [] [] (.ops pcashbookref21_Legsr14)) (.keep [] [(6, false)] [] [] [] .ret)))))
def pcashbookref21_Legs : Fd := ⟨3, [.tmp 6], [], pcashbookref21_Legsb⟩
theorem pcashbookref21_Legs_ag : agreeF Tryz.prog Tryz.f43 pcashbookref21_Legs = true := by kernel_rfl
theorem cashbookref21_Legs_ok {l1 : List T_api_Posting} {acc2 : Int} {cur3 : Int} {r : List T_cashbookref21_L} (h : cashbookref21_Legs l1 acc2 cur3 = some r) : Contract Tryz.prog 43 [.pv (.slice (List.map T_api_Posting.pv l1)), .pv (.int .i64 acc2), .pv (.int .i64 cur3)] [] ⟨.pv (.slice (List.map T_cashbookref21_L.pv r)), [], []⟩ := by
 refine contract_fin hm Tryz.func43 pcashbookref21_Legs_ag (by kernel_rfl) ?_
 unfold cashbookref21_Legs at h
 refine W.seqOps (RunR.all (by kernel_rfl)) ?_
 refine W.seqOps (RunR.all (by kernel_rfl)) ?_
 refine W.assoc ?_
 refine W.seqOps (RunR.stat 1 (by kernel_rfl) (RunR.dyn (Step.lenT (f := T_api_Posting.pv) (l := l1) (by kernel_rfl)) (RunR.all (by kernel_rfl)))) ?_
 replace h := bindS h
 obtain ⟨j4, hj4, h⟩ := h
 refine W.join (j := j4) (fun p σ => σ.tidy [.loc 7 0] [(7, true)] [] [] [] = ⟨[(7, .pv (.slice (List.map T_cashbookref21_L.pv p)))], []⟩) ?_ (fun σj4 hsj4 => ?_)
 ·refine W.blockLoop (fun q σ => ((σ.forget [1, 2, 7, 13, 14, 15]).killAll []).tidy [] [(1, false), (2, false), (7, false), (13, false), (14, false), (15, false)] [(.loc 7 0, false)] [] [.slot 7 (.loc 7 0) 3] = ⟨[(1, .pv (.int .i64 acc2)), (2, .pv (.int .i64 cur3)), (7, .own (.loc 7 0)), (13, .pv (.slice (List.map T_api_Posting.pv l1))), (14, .pv (.int .i64 (l1.length : Int))), (15, .pv (.int .i64 q.1))], [(.loc 7 0, .row 3 (List.map T_cashbookref21_L.pv q.2))]⟩) hj4 ?_ ?_
  ·show _ = _
   kernel_rfl
  ·intro q σj4 oj4 hJj4 h
   obtain ⟨x5, row6⟩ := q
   refine W.keep hJj4 ?_
   refine W.seqOps (RunR.all (by kernel_rfl)) ?_
   refine W.seqCond (t := decide (x5 < (l1.length : Int))) (by kernel_rfl) h (fun hc h' => ?_) (fun hc h' => ?_)
   ·replace h := h'
    refine W.seqSkip ?_
    refine W.seqPass ?_
    refine W.assoc ?_
    replace h := bindS h
    obtain ⟨x7, hx7, h⟩ := h
    refine W.seqOps (RunR.dyn (Step.idxT (f := T_api_Posting.pv) (l := l1) (n := x5) (e := x7) (k := .i64) (by kernel_rfl) (by kernel_rfl) hx7 (by kernel_rfl)) (RunR.all (by kernel_rfl))) ?_
    refine W.assoc ?_
    refine W.seqOps (RunR.stat 2 (by kernel_rfl) (RunR.dyn (Step.lenT (f := T_api_Leg.pv) (l := x7.f_Legs) (by kernel_rfl)) (RunR.all (by kernel_rfl)))) ?_
    replace h := bindS h
    obtain ⟨j8, hj8, h⟩ := h
    refine W.join (j := j8) (fun p σ => σ.tidy [] [(1, false), (2, false), (7, false), (13, false), (14, false), (15, false)] [(.loc 7 0, false)] [.loc 9 0] [] = ⟨[(1, .pv (.int .i64 acc2)), (2, .pv (.int .i64 cur3)), (7, .own (.loc 7 0)), (13, .pv (.slice (List.map T_api_Posting.pv l1))), (14, .pv (.int .i64 (l1.length : Int))), (15, .pv (.int .i64 x5))], [(.loc 7 0, .row 3 (List.map T_cashbookref21_L.pv p))]⟩) ?_ (fun σj8 hsj8 => ?_)
    ·refine W.blockLoop (fun q σ => ((σ.forget [1, 2, 7, 9, 13, 14, 15, 20, 21, 22]).killAll []).tidy [] [(1, false), (2, false), (7, false), (9, false), (13, false), (14, false), (15, false), (20, false), (21, false), (22, false)] [(.loc 7 0, false), (.loc 9 0, false)] [] [] = ⟨[(1, .pv (.int .i64 acc2)), (2, .pv (.int .i64 cur3)), (7, .own (.loc 7 0)), (9, .ptr (.loc 9 0) 0), (13, .pv (.slice (List.map T_api_Posting.pv l1))), (14, .pv (.int .i64 (l1.length : Int))), (15, .pv (.int .i64 x5)), (20, .pv (.slice (List.map T_api_Leg.pv x7.f_Legs))), (21, .pv (.int .i64 (x7.f_Legs.length : Int))), (22, .pv (.int .i64 q.1))], [(.loc 7 0, .row 3 (List.map T_cashbookref21_L.pv q.2)), (.loc 9 0, .box [.pv (.int .i64 x7.f_ID), .pv (.int .i32 x7.f_Known), .pv (.int .i32 x7.f_Value), .pv (.slice (List.map T_api_Leg.pv x7.f_Legs)), .pv (.int .i64 x7.f_Reverses), .pv (.int .i64 x7.f_Kind), .pv (.str x7.f_Memo)])]⟩) hj8 ?_ ?_
     ·show _ = _
      kernel_rfl
     ·intro q σj8 oj8 hJj8 h
      obtain ⟨x9, row10⟩ := q
      refine W.keep hJj8 ?_
      refine W.seqOps (RunR.all (by kernel_rfl)) ?_
      refine W.seqCond (t := decide (x9 < (x7.f_Legs.length : Int))) (by kernel_rfl) h (fun hc h' => ?_) (fun hc h' => ?_)
      ·replace h := h'
       refine W.seqSkip ?_
       refine W.seqPass ?_
       refine W.assoc ?_
       replace h := bindS h
       obtain ⟨x11, hx11, h⟩ := h
       refine W.seqOps (RunR.dyn (Step.idxT (f := T_api_Leg.pv) (l := x7.f_Legs) (n := x9) (e := x11) (k := .i64) (by kernel_rfl) (by kernel_rfl) hx11 (by kernel_rfl)) (RunR.all (by kernel_rfl))) ?_
       refine W.assoc ?_
       replace h := bindS h
       obtain ⟨c12, hc12, h⟩ := h
       refine W.seqOps (RunR.stat 4 (by kernel_rfl) (RunR.dyn (Step.name (f := eBool) (e := (x11.f_Acc == acc2)) (c := c12) (by kernel_rfl) hc12) (RunR.puts 6 [(36, .pv (.bool (c12 && (x11.f_Amount.f_Cur == cur3)))), (35, (bif c12 then (.pv (.bool (x11.f_Amount.f_Cur == cur3))) else (.tup []))), (34, (bif c12 then (.pv (.int .i64 cur3)) else (.tup []))), (33, (bif c12 then (.pv (.int .i64 x11.f_Amount.f_Cur)) else (.tup []))), (32, (bif c12 then (.ptr (.loc 11 0) 1) else (.tup []))), (31, (bif c12 then (.ptr (.loc 11 0) 1) else (.tup [])))] (by cases c12 <;> kernel_rfl) ((.nil _))))) ?_
       replace h := bindS h
       obtain ⟨j13, hj13, h⟩ := h
       refine W.join (j := j13) (fun p σ => σ.tidy [] [(1, false), (2, false), (7, false), (9, false), (13, false), (14, false), (15, false), (20, false), (21, false), (22, false)] [(.loc 7 0, false), (.loc 9 0, false)] [.loc 11 0] [] = ⟨[(1, .pv (.int .i64 acc2)), (2, .pv (.int .i64 cur3)), (7, .own (.loc 7 0)), (9, .ptr (.loc 9 0) 0), (13, .pv (.slice (List.map T_api_Posting.pv l1))), (14, .pv (.int .i64 (l1.length : Int))), (15, .pv (.int .i64 x5)), (20, .pv (.slice (List.map T_api_Leg.pv x7.f_Legs))), (21, .pv (.int .i64 (x7.f_Legs.length : Int))), (22, .pv (.int .i64 x9))], [(.loc 7 0, .row 3 (List.map T_cashbookref21_L.pv p)), (.loc 9 0, .box [.pv (.int .i64 x7.f_ID), .pv (.int .i32 x7.f_Known), .pv (.int .i32 x7.f_Value), .pv (.slice (List.map T_api_Leg.pv x7.f_Legs)), .pv (.int .i64 x7.f_Reverses), .pv (.int .i64 x7.f_Kind), .pv (.str x7.f_Memo)])]⟩) ?_ (fun σj13 hsj13 => ?_)
       ·replace h := hj13
        refine W.condI (t := (c12 && (x11.f_Amount.f_Cur == cur3))) (by kernel_rfl) h (fun hc h' => ?_) (fun hc h' => ?_)
        ·replace h := h'
         replace h := bindS h
         obtain ⟨x14, hx14, h⟩ := h
         refine W.ops (RunR.stat 10 (by kernel_rfl) (RunR.dyn (Step.appendOwnT (k := .loc 7 0) (f := T_cashbookref21_L.pv) (l := row10) (m := [(⟨x7.f_Known, x7.f_Value, x11.f_Amount.f_Minor⟩ : T_cashbookref21_L)]) (by kernel_rfl) (by kernel_rfl) (by kernel_rfl) hx14 (fun _ => rfl) (by kernel_rfl)) (RunR.all (by kernel_rfl)))) ?_
         cases h
         exact (normw (by (show _ = _); kernel_rfl))
        ·replace h := h'
         cases h
         exact W.skip ((normw (by (show _ = _); kernel_rfl)))
       ·refine W.keep hsj13 ?_
        refine W.ops (RunR.all (by kernel_rfl)) ?_
        cases h
        exact (outw_in (by (show _ = _); kernel_rfl))
      ·replace h := h'
       cases h
       exact W.seqExit ((outw_out exit_ne (bnorm_x (by (show _ = _); kernel_rfl))))
    ·refine W.keep hsj8 ?_
     refine W.ops (RunR.all (by kernel_rfl)) ?_
     cases h
     exact (outw_in (by (show _ = _); kernel_rfl))
   ·replace h := h'
    cases h
    exact W.seqExit ((outw_out exit_ne (bnorm_x (by (show _ = _); kernel_rfl))))
 ·refine W.seqKeep hsj4 ?_
  refine W.seqOps (RunR.all (by kernel_rfl)) ?_
  refine W.keep rfl ?_
  cases h
  exact W.ret ((fin_ret (by kernel_rfl)))
def pcashbookref21_Greatr0 : List GOp := [⟨(some 2), none, .mov (.cst (.bool false))⟩]
def pcashbookref21_Greatr1 : List GOp := [⟨(some 3), none, .mov (.cst (.int .i64 0))⟩]
def pcashbookref21_Greatr2 : List GOp := [⟨(some 6), none, .mov (.tmp 0)⟩, ⟨(some 7), none, .len false (.tmp 6)⟩, ⟨(some 8), none, .mov (.cst (.int .i64 0))⟩]
def pcashbookref21_Greatr3 : List GOp := [⟨(some 9), none, .bin false .lss (.tmp 8) (.tmp 7)⟩]
def pcashbookref21_Greatr4 : List GOp := [⟨(some 10), none, .idx 3 (.tmp 6) (.tmp 8)⟩, ⟨(some 11), none, .load true 3 (.tmp 10)⟩, ⟨(some 5), none, .alloc [.pv (.int .i32 0), .pv (.int .i32 0), .pv (.int .i64 0)]⟩, ⟨none, none, .store 3 (.tmp 5) (.tmp 11)⟩]
def pcashbookref21_Greatr5 : List GOp := [⟨(some 12), none, .fld 2 (.tmp 5)⟩, ⟨(some 13), none, .load false 1 (.tmp 12)⟩, ⟨(some 14), none, .bin false .gtr (.tmp 13) (.cst (.int .i64 1000000000000000000))⟩, ⟨(some 15), none, .mov (.tmp 14)⟩, ⟨(some 16), (some (15, false)), .fld 2 (.tmp 5)⟩, ⟨(some 17), (some (15, false)), .load false 1 (.tmp 16)⟩, ⟨(some 18), (some (15, false)), .bin false .lss (.tmp 17) (.cst (.int .i64 (-1000000000000000000)))⟩, ⟨(some 19), none, .pick (.tmp 15) (.cst (.bool true)) (.tmp 18)⟩]
def pcashbookref21_Greatr6 : List GOp := [⟨(some 2), none, .mov (.cst (.bool true))⟩]
def pcashbookref21_Greatr7 : List GOp := [⟨(some 20), none, .fld 2 (.tmp 5)⟩, ⟨(some 21), none, .load false 1 (.tmp 20)⟩, ⟨(some 22), none, .bin false .lss (.tmp 21) (.cst (.int .i64 0))⟩]
def pcashbookref21_Greatr8 : List GOp := [⟨(some 23), none, .mov (.tmp 3)⟩, ⟨(some 24), none, .fld 2 (.tmp 5)⟩, ⟨(some 25), none, .load false 1 (.tmp 24)⟩, ⟨(some 26), none, .bin false .sub (.tmp 23) (.tmp 25)⟩, ⟨(some 3), none, .mov (.tmp 26)⟩]
def pcashbookref21_Greatr9 : List GOp := [⟨(some 27), none, .mov (.tmp 3)⟩, ⟨(some 28), none, .fld 2 (.tmp 5)⟩, ⟨(some 29), none, .load false 1 (.tmp 28)⟩, ⟨(some 30), none, .bin false .add (.tmp 27) (.tmp 29)⟩, ⟨(some 3), none, .mov (.tmp 30)⟩]
def pcashbookref21_Greatr10 : List GOp := [⟨(some 31), none, .mov (.tmp 3)⟩, ⟨(some 32), none, .bin false .gtr (.tmp 31) (.cst (.int .i64 1000000000000000000))⟩]
def pcashbookref21_Greatr11 : List GOp := [⟨(some 2), none, .mov (.cst (.bool true))⟩]
def pcashbookref21_Greatr12 : List GOp := [⟨(some 33), none, .bin false .add (.tmp 8) (.cst (.int .i64 1))⟩, ⟨(some 8), none, .mov (.tmp 33)⟩]
def pcashbookref21_Greatl13 : AC := (.keep [] [(3, false), (6, false), (7, false), (8, false)] [] [] [] (.seq (.ops pcashbookref21_Greatr3) (.seq (.cond (.tmp 9) .skip (.exit 0)) (.seq (.pass 1 (.seq (.ops pcashbookref21_Greatr4) (.seq (.seq (.ops pcashbookref21_Greatr5) (.cond (.tmp 19) (.seq (.ops pcashbookref21_Greatr6) (.keep [] [(2, false)] [] [.loc 5 0] [] .ret)) .skip)) (.seq (.seq (.ops pcashbookref21_Greatr7) (.cond (.tmp 22) (.ops pcashbookref21_Greatr8) (.ops pcashbookref21_Greatr9))) (.seq (.keep [] [(3, false), (6, false), (7, false), (8, false)] [] [.loc 5 0] [] (.ops pcashbookref21_Greatr10)) (.cond (.tmp 32) (.seq (.ops pcashbookref21_Greatr11) (.keep [] [(2, false)] [] [.loc 5 0] [] .ret)) .skip)))))) (.ops pcashbookref21_Greatr12)))))
def pcashbookref21_Greatr14 : List GOp := [⟨(some 2), none, .mov (.cst (.bool false))⟩]
def pcashbookref21_Greatb : AC := (.seq (.ops pcashbookref21_Greatr0) (.seq (.ops pcashbookref21_Greatr1) (.seq (.seq (.ops pcashbookref21_Greatr2) (.block 0 (.loop [3, 6, 7, 8] [] pcashbookref21_Greatl13))) (.seq (.keep [] [] [] [] [] (.ops pcashbookref21_Greatr14)) (.keep [] [(2, false)] [] [.loc 5 0] [] .ret)))))
def pcashbookref21_Great : Fd := ⟨1, [.tmp 2], [], pcashbookref21_Greatb⟩
theorem pcashbookref21_Great_ag : agreeF Tryz.prog Tryz.f42 pcashbookref21_Great = true := by kernel_rfl
theorem cashbookref21_Great_ok {l1 : List T_cashbookref21_L} {r : Bool} (h : cashbookref21_Great l1 = some r) : Contract Tryz.prog 42 [.pv (.slice (List.map T_cashbookref21_L.pv l1))] [] ⟨.pv (.bool r), [], []⟩ := by
 refine contract_fin hm Tryz.func42 pcashbookref21_Great_ag (by kernel_rfl) ?_
 unfold cashbookref21_Great at h
 refine W.seqOps (RunR.all (by kernel_rfl)) ?_
 refine W.seqOps (RunR.all (by kernel_rfl)) ?_
 refine W.assoc ?_
 refine W.seqOps (RunR.stat 1 (by kernel_rfl) (RunR.dyn (Step.lenT (f := T_cashbookref21_L.pv) (l := l1) (by kernel_rfl)) (RunR.all (by kernel_rfl)))) ?_
 replace h := bindS h
 obtain ⟨j2, hj2, h⟩ := h
 refine W.joinOut (j := j2) (o := r) (fun p σ => σ.tidy [] [] [] [] [] = ⟨[], []⟩) ?_ (fun p σj2 hp hsj2 => ?_) (fun p hp => ?_)
 ·refine W.blockLoopO (fun q σ => ((σ.forget [3, 6, 7, 8]).killAll []).tidy [] [(3, false), (6, false), (7, false), (8, false)] [] [] [] = ⟨[(3, .pv (.int .i64 q.1)), (6, .pv (.slice (List.map T_cashbookref21_L.pv l1))), (7, .pv (.int .i64 (l1.length : Int))), (8, .pv (.int .i64 q.2))], []⟩) hj2 ?_ ?_
  ·show _ = _
   kernel_rfl
  ·intro q σj2 oj2 hJj2 h
   obtain ⟨sum3, x4⟩ := q
   refine W.keep hJj2 ?_
   refine W.seqOps (RunR.all (by kernel_rfl)) ?_
   refine W.seqCond (t := decide (x4 < (l1.length : Int))) (by kernel_rfl) h (fun hc h' => ?_) (fun hc h' => ?_)
   ·replace h := h'
    refine W.seqSkip ?_
    refine W.seqPass ?_
    refine W.assoc ?_
    replace h := bindS h
    obtain ⟨x5, hx5, h⟩ := h
    refine W.seqOps (RunR.dyn (Step.idxT (f := T_cashbookref21_L.pv) (l := l1) (n := x4) (e := x5) (k := .i64) (by kernel_rfl) (by kernel_rfl) hx5 (by kernel_rfl)) (RunR.all (by kernel_rfl))) ?_
    refine W.assoc ?_
    refine W.assoc ?_
    replace h := bindS h
    obtain ⟨c6, hc6, h⟩ := h
    refine W.seqOps (RunR.stat 3 (by kernel_rfl) (RunR.dyn (Step.name (f := eBool) (e := decide (x5.f_Minor > 1000000000000000000)) (c := c6) (by kernel_rfl) hc6) (RunR.puts 4 [(19, .pv (.bool (c6 || (decide (x5.f_Minor < (-1000000000000000000)))))), (18, (bif !c6 then (.pv (.bool (decide (x5.f_Minor < (-1000000000000000000))))) else (.tup []))), (17, (bif !c6 then (.pv (.int .i64 x5.f_Minor)) else (.tup []))), (16, (bif !c6 then (.ptr (.loc 5 0) 2) else (.tup [])))] (by cases c6 <;> kernel_rfl) ((.nil _))))) ?_
    refine W.seqCond (t := (c6 || (decide (x5.f_Minor < (-1000000000000000000))))) (by kernel_rfl) h (fun hc h' => ?_) (fun hc h' => ?_)
    ·replace h := h'
     refine W.assoc ?_
     refine W.seqOps (RunR.all (by kernel_rfl)) ?_
     refine W.seqKeep rfl ?_
     cases h
     exact W.seqRet ((outw_out ret_ne (bout_o ret_ne ret_ne' (fun e => by subst e; exact (fin_ret (by kernel_rfl))))))
    ·replace h := h'
     refine W.seqSkip ?_
     refine W.assoc ?_
     refine W.assoc ?_
     refine W.seqOps (RunR.all (by kernel_rfl)) ?_
     replace h := bindS h
     obtain ⟨j7, hj7, h⟩ := h
     refine W.join (j := j7) (fun p σ => σ.tidy [] [(3, false), (6, false), (7, false), (8, false)] [] [.loc 5 0] [] = ⟨[(3, .pv (.int .i64 p)), (6, .pv (.slice (List.map T_cashbookref21_L.pv l1))), (7, .pv (.int .i64 (l1.length : Int))), (8, .pv (.int .i64 x4))], []⟩) ?_ (fun σj7 hsj7 => ?_)
     ·replace h := hj7
      refine W.condI (t := decide (x5.f_Minor < 0)) (by kernel_rfl) h (fun hc h' => ?_) (fun hc h' => ?_)
      ·replace h := h'
       refine W.ops (RunR.all (by kernel_rfl)) ?_
       cases h
       exact (normw (by (show _ = _); kernel_rfl))
      ·replace h := h'
       refine W.ops (RunR.all (by kernel_rfl)) ?_
       cases h
       exact (normw (by (show _ = _); kernel_rfl))
     ·refine W.assoc ?_
      refine W.seqKeep hsj7 ?_
      refine W.seqOps (RunR.all (by kernel_rfl)) ?_
      refine W.seqCond (t := decide (j7 > 1000000000000000000)) (by kernel_rfl) h (fun hc h' => ?_) (fun hc h' => ?_)
      ·replace h := h'
       refine W.assoc ?_
       refine W.seqOps (RunR.all (by kernel_rfl)) ?_
       refine W.seqKeep rfl ?_
       cases h
       exact W.seqRet ((outw_out ret_ne (bout_o ret_ne ret_ne' (fun e => by subst e; exact (fin_ret (by kernel_rfl))))))
      ·replace h := h'
       refine W.seqSkip ?_
       refine W.ops (RunR.all (by kernel_rfl)) ?_
       cases h
       exact (outw_in (by (show _ = _); kernel_rfl))
   ·replace h := h'
    cases h
    exact W.seqExit ((outw_out exit_ne (bout_x (by (show _ = _); kernel_rfl))))
 ·subst hp
  obtain ⟨⟩ := p
  refine W.seqKeep hsj2 ?_
  refine W.seqOps (RunR.all (by kernel_rfl)) ?_
  refine W.keep rfl ?_
  cases h
  exact W.ret ((fin_ret (by kernel_rfl)))
 ·subst hp
  exact Option.some.inj h
def pcashbookref26_Whyr0 : List GOp := [⟨(some 3), none, .box (.tmp 0)⟩, ⟨(some 6), none, .mov (.cst (.int .i64 0))⟩]
def pcashbookref26_Whyr1 : List GOp := [⟨(some 9), none, .fld 0 (.tmp 3)⟩, ⟨(some 10), none, .fld 1 (.tmp 9)⟩, ⟨(some 11), none, .load false 1 (.tmp 10)⟩, ⟨(some 12), none, .mov (.tmp 1)⟩, ⟨(some 13), none, .call 0 0 (.cst (.fn 40)) [(.tmp 11), (.tmp 12)] [] []⟩, ⟨(some 7), none, .mov (.tmp 13)⟩]
def pcashbookref26_Whyr2 : List GOp := [⟨(some 14), none, .mov (.tmp 7)⟩, ⟨(some 15), none, .bin false .lss (.tmp 14) (.cst (.int .i64 0))⟩]
def pcashbookref26_Whyr3 : List GOp := [⟨(some 6), none, .mov (.cst (.int .i64 8))⟩]
def pcashbookref26_Whyr4 : List GOp := [⟨(some 16), none, .fld 0 (.tmp 3)⟩, ⟨(some 17), none, .fld 1 (.tmp 16)⟩, ⟨(some 18), none, .load false 1 (.tmp 17)⟩, ⟨(some 19), none, .mov (.tmp 7)⟩, ⟨(some 20), none, .idx 8 (.tmp 18) (.tmp 19)⟩, ⟨(some 21), none, .load true 8 (.tmp 20)⟩, ⟨(some 8), none, .alloc [.pv (.int .i64 0), .pv (.int .i64 0), .pv (.int .i64 0), .pv (.int .i64 0), .pv (.int .i64 0), .pv (.int .i64 0), .pv (.int .i32 0), .pv (.int .i32 0)]⟩, ⟨none, none, .store 8 (.tmp 8) (.tmp 21)⟩]
def pcashbookref26_Whyr5 : List GOp := [⟨(some 22), none, .fld 1 (.tmp 8)⟩, ⟨(some 23), none, .load false 1 (.tmp 22)⟩, ⟨(some 24), none, .bin false .neq (.tmp 23) (.cst (.int .i64 1))⟩]
def pcashbookref26_Whyr6 : List GOp := [⟨(some 6), none, .mov (.cst (.int .i64 13))⟩]
def pcashbookref26_Whyr7 : List GOp := [⟨(some 25), none, .mov (.tmp 2)⟩, ⟨(some 26), none, .call 0 0 (.cst (.fn 41)) [(.tmp 25)] [] []⟩, ⟨(some 27), none, .un .not (.tmp 26)⟩]
def pcashbookref26_Whyr8 : List GOp := [⟨(some 6), none, .mov (.cst (.int .i64 11))⟩]
def pcashbookref26_Whyr9 : List GOp := [⟨(some 28), none, .mov (.tmp 2)⟩, ⟨(some 29), none, .fld 6 (.tmp 8)⟩, ⟨(some 30), none, .load false 1 (.tmp 29)⟩, ⟨(some 31), none, .bin false .lss (.tmp 28) (.tmp 30)⟩, ⟨(some 32), none, .mov (.tmp 31)⟩, ⟨(some 33), (some (32, false)), .mov (.tmp 2)⟩, ⟨(some 34), (some (32, false)), .fld 7 (.tmp 8)⟩, ⟨(some 35), (some (32, false)), .load false 1 (.tmp 34)⟩, ⟨(some 36), (some (32, false)), .bin false .gtr (.tmp 33) (.tmp 35)⟩, ⟨(some 37), none, .pick (.tmp 32) (.cst (.bool true)) (.tmp 36)⟩]
def pcashbookref26_Whyr10 : List GOp := [⟨(some 6), none, .mov (.cst (.int .i64 16))⟩]
def pcashbookref26_Whyr11 : List GOp := [⟨(some 38), none, .fld 2 (.tmp 3)⟩, ⟨(some 39), none, .load false 1 (.tmp 38)⟩, ⟨(some 40), none, .mov (.tmp 1)⟩, ⟨(some 41), none, .fld 2 (.tmp 8)⟩, ⟨(some 42), none, .load false 1 (.tmp 41)⟩, ⟨(some 43), none, .call 0 0 (.cst (.fn 43)) [(.tmp 39), (.tmp 40), (.tmp 42)] [] []⟩, ⟨(some 44), none, .call 0 0 (.cst (.fn 42)) [(.tmp 43)] [] []⟩]
def pcashbookref26_Whyr12 : List GOp := [⟨(some 6), none, .mov (.cst (.int .i64 9))⟩]
def pcashbookref26_Whyr13 : List GOp := [⟨(some 6), none, .mov (.cst (.int .i64 0))⟩]
def pcashbookref26_Whyb : AC := (.seq (.ops pcashbookref26_Whyr0) (.seq (.ops pcashbookref26_Whyr1) (.seq (.seq (.ops pcashbookref26_Whyr2) (.cond (.tmp 15) (.seq (.ops pcashbookref26_Whyr3) (.keep [] [(6, false)] [] [.loc 3 0, .loc 8 0] [] .ret)) .skip)) (.seq (.ops pcashbookref26_Whyr4) (.seq (.seq (.ops pcashbookref26_Whyr5) (.cond (.tmp 24) (.seq (.ops pcashbookref26_Whyr6) (.keep [] [(6, false)] [] [.loc 3 0, .loc 8 0] [] .ret)) .skip)) (.seq (.seq (.ops pcashbookref26_Whyr7) (.cond (.tmp 27) (.seq (.ops pcashbookref26_Whyr8) (.keep [] [(6, false)] [] [.loc 3 0, .loc 8 0] [] .ret)) .skip)) (.seq (.seq (.ops pcashbookref26_Whyr9) (.cond (.tmp 37) (.seq (.ops pcashbookref26_Whyr10) (.keep [] [(6, false)] [] [.loc 3 0, .loc 8 0] [] .ret)) .skip)) (.seq (.seq (.ops pcashbookref26_Whyr11) (.cond (.tmp 44) (.seq (.ops pcashbookref26_Whyr12) (.keep [] [(6, false)] [] [.loc 3 0, .loc 8 0] [] .ret)) .skip)) (.seq (.ops pcashbookref26_Whyr13) (.keep [] [(6, false)] [] [.loc 3 0, .loc 8 0] [] .ret))))))))))
def pcashbookref26_Why : Fd := ⟨3, [.tmp 6], [], pcashbookref26_Whyb⟩
theorem pcashbookref26_Why_ag : agreeF Tryz.prog Tryz.f14 pcashbookref26_Why = true := by kernel_rfl
theorem cashbookref26_Why_ok {t1 : T_api_Till} {acc2 : Int} {now3 : Int} {r : Int} (h : cashbookref26_Why t1 acc2 now3 = some r) : Contract Tryz.prog 14 [.pv (T_api_Till.pv t1), .pv (.int .i64 acc2), .pv (.int .i32 now3)] [] ⟨.pv (.int .i64 r), [], []⟩ := by
 refine contract_fin hm Tryz.func14 pcashbookref26_Why_ag (by kernel_rfl) ?_
 unfold cashbookref26_Why at h
 refine W.seqOps (RunR.all (by kernel_rfl)) ?_
 replace h := bindS h
 obtain ⟨x4, hx4, h⟩ := h
 refine W.seqOps (RunR.stat 4 (by kernel_rfl) (RunR.cons (tab_cons (on := true) (fun _ => cashbookref18_Place_ok hx4) tab_nil) (Step.call0 (g := 40) (caps := []) (v := .pv (.int .i64 x4)) (by kernel_rfl) (by kernel_rfl) (by kernel_rfl) (tab_hit (by kernel_rfl)) (by kernel_rfl)) (RunR.all (by kernel_rfl)))) ?_
 refine W.assoc ?_
 refine W.seqOps (RunR.all (by kernel_rfl)) ?_
 refine W.seqCond (t := decide (x4 < 0)) (by kernel_rfl) h (fun hc h' => ?_) (fun hc h' => ?_)
 ·replace h := h'
  refine W.assoc ?_
  refine W.seqOps (RunR.all (by kernel_rfl)) ?_
  refine W.seqKeep rfl ?_
  cases h
  exact W.seqRet ((fin_ret (by kernel_rfl)))
 ·replace h := h'
  refine W.seqSkip ?_
  replace h := bindS h
  obtain ⟨x5, hx5, h⟩ := h
  refine W.seqOps (RunR.stat 4 (by kernel_rfl) (RunR.dyn (Step.idxT (f := T_api_Record.pv) (l := t1.f_Chart.f_Records) (n := x4) (e := x5) (k := .i64) (by kernel_rfl) (by kernel_rfl) hx5 (by kernel_rfl)) (RunR.all (by kernel_rfl)))) ?_
  refine W.assoc ?_
  refine W.seqOps (RunR.all (by kernel_rfl)) ?_
  refine W.seqCond (t := (x5.f_Kind != 1)) (by kernel_rfl) h (fun hc h' => ?_) (fun hc h' => ?_)
  ·replace h := h'
   refine W.assoc ?_
   refine W.seqOps (RunR.all (by kernel_rfl)) ?_
   refine W.seqKeep rfl ?_
   cases h
   exact W.seqRet ((fin_ret (by kernel_rfl)))
  ·replace h := h'
   refine W.seqSkip ?_
   refine W.assoc ?_
   replace h := bindS h
   obtain ⟨x6, hx6, h⟩ := h
   refine W.seqOps (RunR.stat 1 (by kernel_rfl) (RunR.cons (tab_cons (on := true) (fun _ => cashbookref04_Right_ok hx6) tab_nil) (Step.call0 (g := 41) (caps := []) (v := .pv (.bool x6)) (by kernel_rfl) (by kernel_rfl) (by kernel_rfl) (tab_hit (by kernel_rfl)) (by kernel_rfl)) (RunR.all (by kernel_rfl)))) ?_
   refine W.seqCond (t := !x6) (by kernel_rfl) h (fun hc h' => ?_) (fun hc h' => ?_)
   ·replace h := h'
    refine W.assoc ?_
    refine W.seqOps (RunR.all (by kernel_rfl)) ?_
    refine W.seqKeep rfl ?_
    cases h
    exact W.seqRet ((fin_ret (by kernel_rfl)))
   ·replace h := h'
    refine W.seqSkip ?_
    refine W.assoc ?_
    replace h := bindS h
    obtain ⟨c7, hc7, h⟩ := h
    refine W.seqOps (RunR.stat 4 (by kernel_rfl) (RunR.dyn (Step.name (f := eBool) (e := decide (now3 < x5.f_From)) (c := c7) (by kernel_rfl) hc7) (RunR.puts 5 [(37, .pv (.bool (c7 || (decide (now3 > x5.f_To))))), (36, (bif !c7 then (.pv (.bool (decide (now3 > x5.f_To)))) else (.tup []))), (35, (bif !c7 then (.pv (.int .i32 x5.f_To)) else (.tup []))), (34, (bif !c7 then (.ptr (.loc 8 0) 7) else (.tup []))), (33, (bif !c7 then (.pv (.int .i32 now3)) else (.tup [])))] (by cases c7 <;> kernel_rfl) ((.nil _))))) ?_
    refine W.seqCond (t := (c7 || (decide (now3 > x5.f_To)))) (by kernel_rfl) h (fun hc h' => ?_) (fun hc h' => ?_)
    ·replace h := h'
     refine W.assoc ?_
     refine W.seqOps (RunR.all (by kernel_rfl)) ?_
     refine W.seqKeep rfl ?_
     cases h
     exact W.seqRet ((fin_ret (by kernel_rfl)))
    ·replace h := h'
     refine W.seqSkip ?_
     refine W.assoc ?_
     replace h := bindS h
     obtain ⟨x8, hx8, h⟩ := h
     replace h := bindS h
     obtain ⟨x9, hx9, h⟩ := h
     refine W.seqOps (RunR.stat 5 (by kernel_rfl) (RunR.cons (tab_cons (on := true) (fun _ => cashbookref21_Legs_ok hx8) tab_nil) (Step.call0 (g := 43) (caps := []) (v := .pv (.slice (List.map T_cashbookref21_L.pv x8))) (by kernel_rfl) (by kernel_rfl) (by kernel_rfl) (tab_hit (by kernel_rfl)) (by kernel_rfl)) (RunR.cons (tab_cons (on := true) (fun _ => cashbookref21_Great_ok hx9) tab_nil) (Step.call0 (g := 42) (caps := []) (v := .pv (.bool x9)) (by kernel_rfl) (by kernel_rfl) (by kernel_rfl) (tab_hit (by kernel_rfl)) (by kernel_rfl)) ((.nil _))))) ?_
     refine W.seqCond (t := x9) (by kernel_rfl) h (fun hc h' => ?_) (fun hc h' => ?_)
     ·replace h := h'
      refine W.assoc ?_
      refine W.seqOps (RunR.all (by kernel_rfl)) ?_
      refine W.seqKeep rfl ?_
      cases h
      exact W.seqRet ((fin_ret (by kernel_rfl)))
     ·replace h := h'
      refine W.seqSkip ?_
      refine W.seqOps (RunR.all (by kernel_rfl)) ?_
      refine W.keep rfl ?_
      cases h
      exact W.ret ((fin_ret (by kernel_rfl)))
def pcashbookref26_Curr0 : List GOp := [⟨(some 2), none, .box (.tmp 0)⟩, ⟨(some 4), none, .mov (.cst (.int .i64 0))⟩]
def pcashbookref26_Curr1 : List GOp := [⟨(some 5), none, .fld 0 (.tmp 2)⟩, ⟨(some 6), none, .fld 1 (.tmp 5)⟩, ⟨(some 7), none, .load false 1 (.tmp 6)⟩, ⟨(some 8), none, .fld 0 (.tmp 2)⟩, ⟨(some 9), none, .fld 1 (.tmp 8)⟩, ⟨(some 10), none, .load false 1 (.tmp 9)⟩, ⟨(some 11), none, .mov (.tmp 1)⟩, ⟨(some 12), none, .call 0 0 (.cst (.fn 40)) [(.tmp 10), (.tmp 11)] [] []⟩, ⟨(some 13), none, .idx 8 (.tmp 7) (.tmp 12)⟩, ⟨(some 14), none, .fld 2 (.tmp 13)⟩, ⟨(some 15), none, .load false 1 (.tmp 14)⟩, ⟨(some 4), none, .mov (.tmp 15)⟩]
def pcashbookref26_Curb : AC := (.seq (.ops pcashbookref26_Curr0) (.seq (.draw [] pcashbookref26_Curr1) (.keep [] [(4, false)] [] [.loc 2 0] [] .ret)))
def pcashbookref26_Cur : Fd := ⟨2, [.tmp 4], [], pcashbookref26_Curb⟩
theorem pcashbookref26_Cur_ag : agreeF Tryz.prog Tryz.f17 pcashbookref26_Cur = true := by kernel_rfl
theorem cashbookref26_Cur_ok {t1 : T_api_Till} {acc2 : Int} {r : Int} (h : cashbookref26_Cur t1 acc2 = some r) : Contract Tryz.prog 17 [.pv (T_api_Till.pv t1), .pv (.int .i64 acc2)] [] ⟨.pv (.int .i64 r), [], []⟩ := by
 refine contract_fin hm Tryz.func17 pcashbookref26_Cur_ag (by kernel_rfl) ?_
 unfold cashbookref26_Cur at h
 refine W.seqOps (RunR.all (by kernel_rfl)) ?_
 replace h := bindS h
 obtain ⟨x3, hx3, h⟩ := h
 replace h := bindS h
 obtain ⟨x4, hx4, h⟩ := h
 refine W.seqDraw (tab_cons (on := true) (fun _ => cashbookref18_Place_ok hx3) tab_nil) (Run.stat 7 (by kernel_rfl) (Run.dyn (Step.call0 (g := 40) (caps := []) (v := .pv (.int .i64 x3)) (by kernel_rfl) (by kernel_rfl) (by kernel_rfl) (tab_hit (by kernel_rfl)) (by kernel_rfl)) (Run.dyn (Step.idxT (f := T_api_Record.pv) (l := t1.f_Chart.f_Records) (n := x3) (e := x4) (k := .i64) (by kernel_rfl) (by kernel_rfl) hx4 (by kernel_rfl)) (Run.all (by kernel_rfl))))) ?_
 refine W.keep rfl ?_
 cases h
 exact W.ret ((fin_ret (by kernel_rfl)))
def pcashbookref21_Ofr0 : List GOp := [⟨(some 4), none, .mov (.cst (.int .i64 0))⟩]
def pcashbookref21_Ofr1 : List GOp := [⟨(some 5), none, .mov (.cst (.int .i64 0))⟩]
def pcashbookref21_Ofr2 : List GOp := [⟨(some 8), none, .mov (.tmp 0)⟩, ⟨(some 9), none, .len false (.tmp 8)⟩, ⟨(some 10), none, .mov (.cst (.int .i64 0))⟩]
def pcashbookref21_Ofr3 : List GOp := [⟨(some 11), none, .bin false .lss (.tmp 10) (.tmp 9)⟩]
def pcashbookref21_Ofr4 : List GOp := [⟨(some 12), none, .idx 3 (.tmp 8) (.tmp 10)⟩, ⟨(some 13), none, .load true 3 (.tmp 12)⟩, ⟨(some 7), none, .alloc [.pv (.int .i32 0), .pv (.int .i32 0), .pv (.int .i64 0)]⟩, ⟨none, none, .store 3 (.tmp 7) (.tmp 13)⟩]
def pcashbookref21_Ofr5 : List GOp := [⟨(some 14), none, .fld 1 (.tmp 7)⟩, ⟨(some 15), none, .load false 1 (.tmp 14)⟩, ⟨(some 16), none, .mov (.tmp 1)⟩, ⟨(some 17), none, .bin false .leq (.tmp 15) (.tmp 16)⟩]
def pcashbookref21_Ofr6 : List GOp := [⟨(some 18), none, .mov (.tmp 5)⟩, ⟨(some 19), none, .fld 2 (.tmp 7)⟩, ⟨(some 20), none, .load false 1 (.tmp 19)⟩, ⟨(some 21), none, .bin false .add (.tmp 18) (.tmp 20)⟩, ⟨(some 5), none, .mov (.tmp 21)⟩]
def pcashbookref21_Ofr7 : List GOp := [⟨(some 22), none, .bin false .add (.tmp 10) (.cst (.int .i64 1))⟩, ⟨(some 10), none, .mov (.tmp 22)⟩]
def pcashbookref21_Ofl8 : AC := (.keep [] [(1, false), (5, false), (8, false), (9, false), (10, false)] [] [] [] (.seq (.ops pcashbookref21_Ofr3) (.seq (.cond (.tmp 11) .skip (.exit 0)) (.seq (.pass 1 (.seq (.ops pcashbookref21_Ofr4) (.seq (.ops pcashbookref21_Ofr5) (.cond (.tmp 17) (.ops pcashbookref21_Ofr6) .skip)))) (.keep [] [(1, false), (5, false), (8, false), (9, false), (10, false)] [] [.loc 7 0] [] (.ops pcashbookref21_Ofr7))))))
def pcashbookref21_Ofr9 : List GOp := [⟨(some 23), none, .mov (.tmp 5)⟩, ⟨(some 4), none, .mov (.tmp 23)⟩]
def pcashbookref21_Ofb : AC := (.seq (.ops pcashbookref21_Ofr0) (.seq (.ops pcashbookref21_Ofr1) (.seq (.seq (.ops pcashbookref21_Ofr2) (.block 0 (.loop [1, 5, 8, 9, 10] [] pcashbookref21_Ofl8))) (.seq (.keep [] [(5, false)] [] [] [] (.ops pcashbookref21_Ofr9)) (.keep [] [(4, false)] [] [] [] .ret)))))
def pcashbookref21_Of : Fd := ⟨2, [.tmp 4], [], pcashbookref21_Ofb⟩
theorem pcashbookref21_Of_ag : agreeF Tryz.prog Tryz.f44 pcashbookref21_Of = true := by kernel_rfl
theorem cashbookref21_Of_ok {l1 : List T_cashbookref21_L} {upto2 : Int} {r : Int} (h : cashbookref21_Of l1 upto2 = some r) : Contract Tryz.prog 44 [.pv (.slice (List.map T_cashbookref21_L.pv l1)), .pv (.int .i32 upto2)] [] ⟨.pv (.int .i64 r), [], []⟩ := by
 refine contract_fin hm Tryz.func44 pcashbookref21_Of_ag (by kernel_rfl) ?_
 unfold cashbookref21_Of at h
 refine W.seqOps (RunR.all (by kernel_rfl)) ?_
 refine W.seqOps (RunR.all (by kernel_rfl)) ?_
 refine W.assoc ?_
 refine W.seqOps (RunR.stat 1 (by kernel_rfl) (RunR.dyn (Step.lenT (f := T_cashbookref21_L.pv) (l := l1) (by kernel_rfl)) (RunR.all (by kernel_rfl)))) ?_
 replace h := bindS h
 obtain ⟨j3, hj3, h⟩ := h
 refine W.join (j := j3) (fun p σ => σ.tidy [] [(5, false)] [] [] [] = ⟨[(5, .pv (.int .i64 p))], []⟩) ?_ (fun σj3 hsj3 => ?_)
 ·refine W.blockLoop (fun q σ => ((σ.forget [1, 5, 8, 9, 10]).killAll []).tidy [] [(1, false), (5, false), (8, false), (9, false), (10, false)] [] [] [] = ⟨[(1, .pv (.int .i32 upto2)), (5, .pv (.int .i64 q.1)), (8, .pv (.slice (List.map T_cashbookref21_L.pv l1))), (9, .pv (.int .i64 (l1.length : Int))), (10, .pv (.int .i64 q.2))], []⟩) hj3 ?_ ?_
  ·show _ = _
   kernel_rfl
  ·intro q σj3 oj3 hJj3 h
   obtain ⟨n4, x5⟩ := q
   refine W.keep hJj3 ?_
   refine W.seqOps (RunR.all (by kernel_rfl)) ?_
   refine W.seqCond (t := decide (x5 < (l1.length : Int))) (by kernel_rfl) h (fun hc h' => ?_) (fun hc h' => ?_)
   ·replace h := h'
    refine W.seqSkip ?_
    refine W.seqPass ?_
    refine W.assoc ?_
    replace h := bindS h
    obtain ⟨x6, hx6, h⟩ := h
    refine W.seqOps (RunR.dyn (Step.idxT (f := T_cashbookref21_L.pv) (l := l1) (n := x5) (e := x6) (k := .i64) (by kernel_rfl) (by kernel_rfl) hx6 (by kernel_rfl)) (RunR.all (by kernel_rfl))) ?_
    refine W.assoc ?_
    refine W.seqOps (RunR.all (by kernel_rfl)) ?_
    replace h := bindS h
    obtain ⟨j7, hj7, h⟩ := h
    refine W.join (j := j7) (fun p σ => σ.tidy [] [(1, false), (5, false), (8, false), (9, false), (10, false)] [] [.loc 7 0] [] = ⟨[(1, .pv (.int .i32 upto2)), (5, .pv (.int .i64 p)), (8, .pv (.slice (List.map T_cashbookref21_L.pv l1))), (9, .pv (.int .i64 (l1.length : Int))), (10, .pv (.int .i64 x5))], []⟩) ?_ (fun σj7 hsj7 => ?_)
    ·replace h := hj7
     refine W.condI (t := decide (x6.f_Value ≤ upto2)) (by kernel_rfl) h (fun hc h' => ?_) (fun hc h' => ?_)
     ·replace h := h'
      refine W.ops (RunR.all (by kernel_rfl)) ?_
      cases h
      exact (normw (by (show _ = _); kernel_rfl))
     ·replace h := h'
      cases h
      exact W.skip ((normw (by (show _ = _); kernel_rfl)))
    ·refine W.keep hsj7 ?_
     refine W.ops (RunR.all (by kernel_rfl)) ?_
     cases h
     exact (outw_in (by (show _ = _); kernel_rfl))
   ·replace h := h'
    cases h
    exact W.seqExit ((outw_out exit_ne (bnorm_x (by (show _ = _); kernel_rfl))))
 ·refine W.seqKeep hsj3 ?_
  refine W.seqOps (RunR.all (by kernel_rfl)) ?_
  refine W.keep rfl ?_
  cases h
  exact W.ret ((fin_ret (by kernel_rfl)))
def pcashbookref26_Fundsr0 : List GOp := [⟨(some 3), none, .box (.tmp 0)⟩, ⟨(some 6), none, .mov (.cst (.int .i64 0))⟩]
def pcashbookref26_Fundsr1 : List GOp := [⟨(some 7), none, .fld 2 (.tmp 3)⟩, ⟨(some 8), none, .load false 1 (.tmp 7)⟩, ⟨(some 9), none, .mov (.tmp 1)⟩, ⟨(some 10), none, .load true 5 (.tmp 3)⟩, ⟨(some 11), none, .mov (.tmp 1)⟩, ⟨(some 12), none, .call 0 0 (.cst (.fn 17)) [(.tmp 10), (.tmp 11)] [] []⟩, ⟨(some 13), none, .call 0 0 (.cst (.fn 43)) [(.tmp 8), (.tmp 9), (.tmp 12)] [] []⟩, ⟨(some 14), none, .mov (.tmp 2)⟩, ⟨(some 15), none, .call 0 0 (.cst (.fn 44)) [(.tmp 13), (.tmp 14)] [] []⟩, ⟨(some 16), none, .bin false .sub (.cst (.int .i64 0)) (.tmp 15)⟩, ⟨(some 6), none, .mov (.tmp 16)⟩]
def pcashbookref26_Fundsb : AC := (.seq (.ops pcashbookref26_Fundsr0) (.seq (.draw [] pcashbookref26_Fundsr1) (.keep [] [(6, false)] [] [.loc 3 0] [] .ret)))
def pcashbookref26_Funds : Fd := ⟨3, [.tmp 6], [], pcashbookref26_Fundsb⟩
theorem pcashbookref26_Funds_ag : agreeF Tryz.prog Tryz.f15 pcashbookref26_Funds = true := by kernel_rfl
theorem cashbookref26_Funds_ok {t1 : T_api_Till} {acc2 : Int} {now3 : Int} {r : Int} (h : cashbookref26_Funds t1 acc2 now3 = some r) : Contract Tryz.prog 15 [.pv (T_api_Till.pv t1), .pv (.int .i64 acc2), .pv (.int .i32 now3)] [] ⟨.pv (.int .i64 r), [], []⟩ := by
 refine contract_fin hm Tryz.func15 pcashbookref26_Funds_ag (by kernel_rfl) ?_
 unfold cashbookref26_Funds at h
 refine W.seqOps (RunR.all (by kernel_rfl)) ?_
 replace h := bindS h
 obtain ⟨x4, hx4, h⟩ := h
 replace h := bindS h
 obtain ⟨x5, hx5, h⟩ := h
 replace h := bindS h
 obtain ⟨x6, hx6, h⟩ := h
 refine W.seqDraw (tab_cons (on := true) (fun _ => cashbookref26_Cur_ok hx4) (tab_cons (on := true) (fun _ => cashbookref21_Legs_ok hx5) (tab_cons (on := true) (fun _ => cashbookref21_Of_ok hx6) tab_nil))) (Run.stat 5 (by kernel_rfl) (Run.dyn (Step.call0 (g := 17) (caps := []) (v := .pv (.int .i64 x4)) (by kernel_rfl) (by kernel_rfl) (by kernel_rfl) (tab_hit (by kernel_rfl)) (by kernel_rfl)) (Run.dyn (Step.call0 (g := 43) (caps := []) (v := .pv (.slice (List.map T_cashbookref21_L.pv x5))) (by kernel_rfl) (by kernel_rfl) (by kernel_rfl) (tab_next rfl (tab_hit (by kernel_rfl))) (by kernel_rfl)) (Run.stat 1 (by kernel_rfl) (Run.dyn (Step.call0 (g := 44) (caps := []) (v := .pv (.int .i64 x6)) (by kernel_rfl) (by kernel_rfl) (by kernel_rfl) (tab_next rfl (tab_next rfl (tab_hit (by kernel_rfl)))) (by kernel_rfl)) (Run.all (by kernel_rfl))))))) ?_
 refine W.keep rfl ?_
 cases h
 exact W.ret ((fin_ret (by kernel_rfl)))
def pcashbookref26_limitr0 : List GOp := [⟨(some 2), none, .box (.tmp 0)⟩, ⟨(some 4), none, .mov (.cst (.int .i64 0))⟩]
def pcashbookref26_limitr1 : List GOp := [⟨(some 7), none, .fld 4 (.tmp 2)⟩, ⟨(some 8), none, .load false 1 (.tmp 7)⟩, ⟨(some 9), none, .len false (.tmp 8)⟩, ⟨(some 10), none, .mov (.cst (.int .i64 0))⟩]
def pcashbookref26_limitr2 : List GOp := [⟨(some 11), none, .bin false .lss (.tmp 10) (.tmp 9)⟩]
def pcashbookref26_limitr3 : List GOp := [⟨(some 12), none, .idx 2 (.tmp 8) (.tmp 10)⟩, ⟨(some 13), none, .load true 2 (.tmp 12)⟩, ⟨(some 6), none, .alloc [.pv (.int .i64 0), .pv (.int .i64 0)]⟩, ⟨none, none, .store 2 (.tmp 6) (.tmp 13)⟩]
def pcashbookref26_limitr4 : List GOp := [⟨(some 14), none, .fld 0 (.tmp 6)⟩, ⟨(some 15), none, .load false 1 (.tmp 14)⟩, ⟨(some 16), none, .mov (.tmp 1)⟩, ⟨(some 17), none, .bin false .eql (.tmp 15) (.tmp 16)⟩]
def pcashbookref26_limitr5 : List GOp := [⟨(some 18), none, .fld 1 (.tmp 6)⟩, ⟨(some 19), none, .load false 1 (.tmp 18)⟩, ⟨(some 4), none, .mov (.tmp 19)⟩]
def pcashbookref26_limitr6 : List GOp := [⟨(some 20), none, .bin false .add (.tmp 10) (.cst (.int .i64 1))⟩, ⟨(some 10), none, .mov (.tmp 20)⟩]
def pcashbookref26_limitl7 : AC := (.keep [] [(1, false), (8, false), (9, false), (10, false)] [] [.loc 2 0, .loc 6 0] [] (.seq (.ops pcashbookref26_limitr2) (.seq (.cond (.tmp 11) .skip (.exit 0)) (.seq (.pass 1 (.seq (.ops pcashbookref26_limitr3) (.seq (.ops pcashbookref26_limitr4) (.cond (.tmp 17) (.seq (.ops pcashbookref26_limitr5) (.keep [] [(4, false)] [] [.loc 6 0] [] .ret)) .skip)))) (.ops pcashbookref26_limitr6)))))
def pcashbookref26_limitr8 : List GOp := [⟨(some 4), none, .mov (.cst (.int .i64 0))⟩]
def pcashbookref26_limitb : AC := (.seq (.ops pcashbookref26_limitr0) (.seq (.seq (.ops pcashbookref26_limitr1) (.block 0 (.loop [1, 8, 9, 10] [] pcashbookref26_limitl7))) (.seq (.keep [] [] [] [.loc 2 0] [] (.ops pcashbookref26_limitr8)) (.keep [] [(4, false)] [] [.loc 6 0] [] .ret))))
def pcashbookref26_limit : Fd := ⟨2, [.tmp 4], [], pcashbookref26_limitb⟩
theorem pcashbookref26_limit_ag : agreeF Tryz.prog Tryz.f90 pcashbookref26_limit = true := by kernel_rfl
theorem cashbookref26_limit_ok {t1 : T_api_Till} {acc2 : Int} {r : Int} (h : cashbookref26_limit t1 acc2 = some r) : Contract Tryz.prog 90 [.pv (T_api_Till.pv t1), .pv (.int .i64 acc2)] [] ⟨.pv (.int .i64 r), [], []⟩ := by
 refine contract_fin hm Tryz.func90 pcashbookref26_limit_ag (by kernel_rfl) ?_
 unfold cashbookref26_limit at h
 refine W.seqOps (RunR.all (by kernel_rfl)) ?_
 refine W.assoc ?_
 refine W.seqOps (RunR.stat 2 (by kernel_rfl) (RunR.dyn (Step.lenT (f := T_api_Limit.pv) (l := t1.f_Limits) (by kernel_rfl)) (RunR.all (by kernel_rfl)))) ?_
 replace h := bindS h
 obtain ⟨j3, hj3, h⟩ := h
 refine W.joinOut (j := j3) (o := r) (fun p σ => σ.tidy [] [] [] [.loc 2 0] [] = ⟨[], []⟩) ?_ (fun p σj3 hp hsj3 => ?_) (fun p hp => ?_)
 ·refine W.blockLoopO (fun q σ => ((σ.forget [1, 8, 9, 10]).killAll []).tidy [] [(1, false), (8, false), (9, false), (10, false)] [] [.loc 2 0, .loc 6 0] [] = ⟨[(1, .pv (.int .i64 acc2)), (8, .pv (.slice (List.map T_api_Limit.pv t1.f_Limits))), (9, .pv (.int .i64 (t1.f_Limits.length : Int))), (10, .pv (.int .i64 q))], []⟩) hj3 ?_ ?_
  ·show _ = _
   kernel_rfl
  ·intro x4 σj3 oj3 hJj3 h
   refine W.keep hJj3 ?_
   refine W.seqOps (RunR.all (by kernel_rfl)) ?_
   refine W.seqCond (t := decide (x4 < (t1.f_Limits.length : Int))) (by kernel_rfl) h (fun hc h' => ?_) (fun hc h' => ?_)
   ·replace h := h'
    refine W.seqSkip ?_
    refine W.seqPass ?_
    refine W.assoc ?_
    replace h := bindS h
    obtain ⟨x5, hx5, h⟩ := h
    refine W.seqOps (RunR.dyn (Step.idxT (f := T_api_Limit.pv) (l := t1.f_Limits) (n := x4) (e := x5) (k := .i64) (by kernel_rfl) (by kernel_rfl) hx5 (by kernel_rfl)) (RunR.all (by kernel_rfl))) ?_
    refine W.assoc ?_
    refine W.seqOps (RunR.all (by kernel_rfl)) ?_
    refine W.seqCond (t := (x5.f_Acc == acc2)) (by kernel_rfl) h (fun hc h' => ?_) (fun hc h' => ?_)
    ·replace h := h'
     refine W.assoc ?_
     refine W.seqOps (RunR.all (by kernel_rfl)) ?_
     refine W.seqKeep rfl ?_
     cases h
     exact W.seqRet ((outw_out ret_ne (bout_o ret_ne ret_ne' (fun e => by subst e; exact (fin_ret (by kernel_rfl))))))
    ·replace h := h'
     refine W.seqSkip ?_
     refine W.ops (RunR.all (by kernel_rfl)) ?_
     cases h
     exact (outw_in (by (show _ = _); kernel_rfl))
   ·replace h := h'
    cases h
    exact W.seqExit ((outw_out exit_ne (bout_x (by (show _ = _); kernel_rfl))))
 ·subst hp
  obtain ⟨⟩ := p
  refine W.seqKeep hsj3 ?_
  refine W.seqOps (RunR.all (by kernel_rfl)) ?_
  refine W.keep rfl ?_
  cases h
  exact W.ret ((fin_ret (by kernel_rfl)))
 ·subst hp
  exact Option.some.inj h
def pcashbookref26_Allr0 : List GOp := [⟨(some 3), none, .box (.tmp 0)⟩, ⟨(some 6), none, .mov (.cst (.int .i64 0))⟩]
def pcashbookref26_Allr1 : List GOp := [⟨(some 7), none, .load true 5 (.tmp 3)⟩, ⟨(some 8), none, .mov (.tmp 1)⟩, ⟨(some 9), none, .mov (.tmp 2)⟩, ⟨(some 10), none, .call 0 0 (.cst (.fn 15)) [(.tmp 7), (.tmp 8), (.tmp 9)] [] []⟩, ⟨(some 11), none, .load true 5 (.tmp 3)⟩, ⟨(some 12), none, .mov (.tmp 1)⟩, ⟨(some 13), none, .call 0 0 (.cst (.fn 90)) [(.tmp 11), (.tmp 12)] [] []⟩, ⟨(some 14), none, .bin false .add (.tmp 10) (.tmp 13)⟩, ⟨(some 6), none, .mov (.tmp 14)⟩]
def pcashbookref26_Allb : AC := (.seq (.ops pcashbookref26_Allr0) (.seq (.draw [] pcashbookref26_Allr1) (.keep [] [(6, false)] [] [.loc 3 0] [] .ret)))
def pcashbookref26_All : Fd := ⟨3, [.tmp 6], [], pcashbookref26_Allb⟩
theorem pcashbookref26_All_ag : agreeF Tryz.prog Tryz.f45 pcashbookref26_All = true := by kernel_rfl
theorem cashbookref26_All_ok {t1 : T_api_Till} {acc2 : Int} {now3 : Int} {r : Int} (h : cashbookref26_All t1 acc2 now3 = some r) : Contract Tryz.prog 45 [.pv (T_api_Till.pv t1), .pv (.int .i64 acc2), .pv (.int .i32 now3)] [] ⟨.pv (.int .i64 r), [], []⟩ := by
 refine contract_fin hm Tryz.func45 pcashbookref26_All_ag (by kernel_rfl) ?_
 unfold cashbookref26_All at h
 refine W.seqOps (RunR.all (by kernel_rfl)) ?_
 replace h := bindS h
 obtain ⟨x4, hx4, h⟩ := h
 replace h := bindS h
 obtain ⟨x5, hx5, h⟩ := h
 refine W.seqDraw (tab_cons (on := true) (fun _ => cashbookref26_Funds_ok hx4) (tab_cons (on := true) (fun _ => cashbookref26_limit_ok hx5) tab_nil)) (Run.stat 3 (by kernel_rfl) (Run.dyn (Step.call0 (g := 15) (caps := []) (v := .pv (.int .i64 x4)) (by kernel_rfl) (by kernel_rfl) (by kernel_rfl) (tab_hit (by kernel_rfl)) (by kernel_rfl)) (Run.stat 2 (by kernel_rfl) (Run.dyn (Step.call0 (g := 90) (caps := []) (v := .pv (.int .i64 x5)) (by kernel_rfl) (by kernel_rfl) (by kernel_rfl) (tab_next rfl (tab_hit (by kernel_rfl))) (by kernel_rfl)) (Run.all (by kernel_rfl)))))) ?_
 refine W.keep rfl ?_
 cases h
 exact W.ret ((fin_ret (by kernel_rfl)))
def pcashbookref25_Liver0 : List GOp := [⟨(some 2), none, .box (.tmp 0)⟩, ⟨(some 4), none, .mov (.cst (.bool false))⟩]
def pcashbookref25_Liver1 : List GOp := [⟨(some 6), none, .load true 9 (.tmp 2)⟩, ⟨(some 7), none, .call 0 0 (.cst (.fn 57)) [(.tmp 6)] [] []⟩, ⟨(some 5), none, .mov (.tmp 7)⟩]
def pcashbookref25_Liver2 : List GOp := [⟨(some 8), none, .mov (.tmp 5)⟩, ⟨(some 9), none, .mov (.tmp 8)⟩, ⟨(some 10), (some (9, true)), .fld 8 (.tmp 2)⟩, ⟨(some 11), (some (9, true)), .load false 1 (.tmp 10)⟩, ⟨(some 12), (some (9, true)), .un .not (.tmp 11)⟩, ⟨(some 13), none, .pick (.tmp 9) (.tmp 12) (.cst (.bool false))⟩, ⟨(some 14), none, .mov (.tmp 13)⟩, ⟨(some 15), (some (14, true)), .fld 5 (.tmp 2)⟩, ⟨(some 16), (some (14, true)), .load false 1 (.tmp 15)⟩, ⟨(some 17), (some (14, true)), .mov (.tmp 1)⟩, ⟨(some 18), (some (14, true)), .bin false .leq (.tmp 16) (.tmp 17)⟩, ⟨(some 19), none, .pick (.tmp 14) (.tmp 18) (.cst (.bool false))⟩, ⟨(some 20), none, .mov (.tmp 19)⟩, ⟨(some 21), (some (20, true)), .mov (.tmp 1)⟩, ⟨(some 22), (some (20, true)), .fld 6 (.tmp 2)⟩, ⟨(some 23), (some (20, true)), .load false 1 (.tmp 22)⟩, ⟨(some 24), (some (20, true)), .bin false .leq (.tmp 21) (.tmp 23)⟩, ⟨(some 25), none, .pick (.tmp 20) (.tmp 24) (.cst (.bool false))⟩, ⟨(some 4), none, .mov (.tmp 25)⟩]
def pcashbookref25_Liveb : AC := (.seq (.ops pcashbookref25_Liver0) (.seq (.ops pcashbookref25_Liver1) (.seq (.ops pcashbookref25_Liver2) (.keep [] [(4, false)] [] [.loc 2 0] [] .ret))))
def pcashbookref25_Live : Fd := ⟨2, [.tmp 4], [], pcashbookref25_Liveb⟩
theorem pcashbookref25_Live_ag : agreeF Tryz.prog Tryz.f59 pcashbookref25_Live = true := by kernel_rfl
theorem cashbookref25_Live_ok {h1 : T_api_Hold} {now2 : Int} {r : Bool} (h : cashbookref25_Live h1 now2 = some r) : Contract Tryz.prog 59 [.pv (T_api_Hold.pv h1), .pv (.int .i32 now2)] [] ⟨.pv (.bool r), [], []⟩ := by
 refine contract_fin hm Tryz.func59 pcashbookref25_Live_ag (by kernel_rfl) ?_
 unfold cashbookref25_Live at h
 refine W.seqOps (RunR.all (by kernel_rfl)) ?_
 replace h := bindS h
 obtain ⟨x3, hx3, h⟩ := h
 refine W.seqOps (RunR.stat 1 (by kernel_rfl) (RunR.cons (tab_cons (on := true) (fun _ => cashbookref25_Right_ok hx3) tab_nil) (Step.call0 (g := 57) (caps := []) (v := .pv (.bool x3)) (by kernel_rfl) (by kernel_rfl) (by kernel_rfl) (tab_hit (by kernel_rfl)) (by kernel_rfl)) (RunR.all (by kernel_rfl)))) ?_
 replace h := bindS h
 obtain ⟨c4, hc4, h⟩ := h
 replace h := bindS h
 obtain ⟨c5, hc5, h⟩ := h
 refine W.seqOps (RunR.stat 2 (by kernel_rfl) (RunR.puts 4 [(13, .pv (.bool (x3 && (!h1.f_Done)))), (12, (bif x3 then (.pv (.bool (!h1.f_Done))) else (.tup []))), (11, (bif x3 then (.pv (.bool h1.f_Done)) else (.tup []))), (10, (bif x3 then (.ptr (.loc 2 0) 8) else (.tup [])))] (by cases x3 <;> kernel_rfl) (RunR.dyn (Step.name (f := eBool) (e := (x3 && (!h1.f_Done))) (c := c4) (by kernel_rfl) hc4) (RunR.puts 5 [(19, .pv (.bool (c4 && (decide (h1.f_Made ≤ now2))))), (18, (bif c4 then (.pv (.bool (decide (h1.f_Made ≤ now2)))) else (.tup []))), (17, (bif c4 then (.pv (.int .i32 now2)) else (.tup []))), (16, (bif c4 then (.pv (.int .i32 h1.f_Made)) else (.tup []))), (15, (bif c4 then (.ptr (.loc 2 0) 5) else (.tup [])))] (by cases c4 <;> kernel_rfl) (RunR.dyn (Step.name (f := eBool) (e := (c4 && (decide (h1.f_Made ≤ now2)))) (c := c5) (by kernel_rfl) hc5) (RunR.puts 5 [(25, .pv (.bool (c5 && (decide (now2 ≤ h1.f_Until))))), (24, (bif c5 then (.pv (.bool (decide (now2 ≤ h1.f_Until)))) else (.tup []))), (23, (bif c5 then (.pv (.int .i32 h1.f_Until)) else (.tup []))), (22, (bif c5 then (.ptr (.loc 2 0) 6) else (.tup []))), (21, (bif c5 then (.pv (.int .i32 now2)) else (.tup [])))] (by cases c5 <;> kernel_rfl) (RunR.all (by kernel_rfl)))))))) ?_
 refine W.keep rfl ?_
 cases h
 exact W.ret ((fin_ret (by kernel_rfl)))
def pcashbookref25_Restr0 : List GOp := [⟨(some 2), none, .box (.tmp 0)⟩, ⟨(some 4), none, .mov (.cst (.int .i64 0))⟩]
def pcashbookref25_Restr1 : List GOp := [⟨(some 6), none, .load true 9 (.tmp 2)⟩, ⟨(some 7), none, .mov (.tmp 1)⟩, ⟨(some 8), none, .call 0 0 (.cst (.fn 59)) [(.tmp 6), (.tmp 7)] [] []⟩, ⟨(some 5), none, .mov (.tmp 8)⟩]
def pcashbookref25_Restr2 : List GOp := [⟨(some 9), none, .mov (.tmp 5)⟩, ⟨(some 10), none, .un .not (.tmp 9)⟩]
def pcashbookref25_Restr3 : List GOp := [⟨(some 4), none, .mov (.cst (.int .i64 0))⟩]
def pcashbookref25_Restr4 : List GOp := [⟨(some 11), none, .fld 2 (.tmp 2)⟩, ⟨(some 12), none, .fld 1 (.tmp 11)⟩, ⟨(some 13), none, .load false 1 (.tmp 12)⟩, ⟨(some 14), none, .fld 7 (.tmp 2)⟩, ⟨(some 15), none, .load false 1 (.tmp 14)⟩, ⟨(some 16), none, .bin false .sub (.tmp 13) (.tmp 15)⟩, ⟨(some 4), none, .mov (.tmp 16)⟩]
def pcashbookref25_Restb : AC := (.seq (.ops pcashbookref25_Restr0) (.seq (.ops pcashbookref25_Restr1) (.seq (.seq (.ops pcashbookref25_Restr2) (.cond (.tmp 10) (.seq (.ops pcashbookref25_Restr3) (.keep [] [(4, false)] [] [.loc 2 0] [] .ret)) .skip)) (.seq (.ops pcashbookref25_Restr4) (.keep [] [(4, false)] [] [.loc 2 0] [] .ret)))))
def pcashbookref25_Rest : Fd := ⟨2, [.tmp 4], [], pcashbookref25_Restb⟩
theorem pcashbookref25_Rest_ag : agreeF Tryz.prog Tryz.f91 pcashbookref25_Rest = true := by kernel_rfl
theorem cashbookref25_Rest_ok {h1 : T_api_Hold} {now2 : Int} {r : Int} (h : cashbookref25_Rest h1 now2 = some r) : Contract Tryz.prog 91 [.pv (T_api_Hold.pv h1), .pv (.int .i32 now2)] [] ⟨.pv (.int .i64 r), [], []⟩ := by
 refine contract_fin hm Tryz.func91 pcashbookref25_Rest_ag (by kernel_rfl) ?_
 unfold cashbookref25_Rest at h
 refine W.seqOps (RunR.all (by kernel_rfl)) ?_
 replace h := bindS h
 obtain ⟨x3, hx3, h⟩ := h
 refine W.seqOps (RunR.stat 2 (by kernel_rfl) (RunR.cons (tab_cons (on := true) (fun _ => cashbookref25_Live_ok hx3) tab_nil) (Step.call0 (g := 59) (caps := []) (v := .pv (.bool x3)) (by kernel_rfl) (by kernel_rfl) (by kernel_rfl) (tab_hit (by kernel_rfl)) (by kernel_rfl)) (RunR.all (by kernel_rfl)))) ?_
 refine W.assoc ?_
 refine W.seqOps (RunR.all (by kernel_rfl)) ?_
 refine W.seqCond (t := !x3) (by kernel_rfl) h (fun hc h' => ?_) (fun hc h' => ?_)
 ·replace h := h'
  refine W.assoc ?_
  refine W.seqOps (RunR.all (by kernel_rfl)) ?_
  refine W.seqKeep rfl ?_
  cases h
  exact W.seqRet ((fin_ret (by kernel_rfl)))
 ·replace h := h'
  refine W.seqSkip ?_
  refine W.seqOps (RunR.all (by kernel_rfl)) ?_
  refine W.keep rfl ?_
  cases h
  exact W.ret ((fin_ret (by kernel_rfl)))
def pcashbookref25_Sumr0 : List GOp := [⟨(some 10), none, .mov (.cst (.int .i64 0))⟩]
def pcashbookref25_Sumr1 : List GOp := [⟨(some 11), none, .mov (.cst (.int .i64 0))⟩]
def pcashbookref25_Sumr2 : List GOp := [⟨(some 12), none, .mov (.cst (.int .i64 0))⟩]
def pcashbookref25_Sumr3 : List GOp := [⟨(some 13), none, .mov (.tmp 12)⟩, ⟨(some 14), none, .mov (.tmp 0)⟩, ⟨(some 15), none, .len false (.tmp 14)⟩, ⟨(some 16), none, .bin false .lss (.tmp 13) (.tmp 15)⟩]
def pcashbookref25_Sumr4 : List GOp := [⟨(some 19), none, .mov (.tmp 0)⟩, ⟨(some 20), none, .mov (.tmp 12)⟩, ⟨(some 21), none, .idx 9 (.tmp 19) (.tmp 20)⟩, ⟨(some 22), none, .fld 1 (.tmp 21)⟩, ⟨(some 23), none, .load false 1 (.tmp 22)⟩, ⟨(some 24), none, .mov (.tmp 1)⟩, ⟨(some 25), none, .bin false .eql (.tmp 23) (.tmp 24)⟩, ⟨(some 26), none, .mov (.tmp 25)⟩, ⟨(some 27), (some (26, true)), .mov (.tmp 0)⟩, ⟨(some 28), (some (26, true)), .mov (.tmp 12)⟩, ⟨(some 29), (some (26, true)), .idx 9 (.tmp 27) (.tmp 28)⟩, ⟨(some 30), (some (26, true)), .fld 2 (.tmp 29)⟩, ⟨(some 31), (some (26, true)), .fld 0 (.tmp 30)⟩, ⟨(some 32), (some (26, true)), .load false 1 (.tmp 31)⟩, ⟨(some 33), (some (26, true)), .mov (.tmp 2)⟩, ⟨(some 34), (some (26, true)), .bin false .eql (.tmp 32) (.tmp 33)⟩, ⟨(some 35), none, .pick (.tmp 26) (.tmp 34) (.cst (.bool false))⟩, ⟨(some 36), none, .mov (.tmp 35)⟩, ⟨(some 37), (some (36, true)), .mov (.tmp 0)⟩, ⟨(some 38), (some (36, true)), .mov (.tmp 12)⟩, ⟨(some 39), (some (36, true)), .idx 9 (.tmp 37) (.tmp 38)⟩, ⟨(some 40), (some (36, true)), .fld 4 (.tmp 39)⟩, ⟨(some 41), (some (36, true)), .load false 1 (.tmp 40)⟩, ⟨(some 42), (some (36, true)), .mov (.tmp 4)⟩, ⟨(some 43), (some (36, true)), .bin false .geq (.tmp 41) (.tmp 42)⟩, ⟨(some 44), none, .pick (.tmp 36) (.tmp 43) (.cst (.bool false))⟩]
def pcashbookref25_Sumr5 : List GOp := [⟨(some 45), none, .mov (.tmp 11)⟩, ⟨(some 46), none, .mov (.tmp 0)⟩, ⟨(some 47), none, .mov (.tmp 12)⟩, ⟨(some 48), none, .idx 9 (.tmp 46) (.tmp 47)⟩, ⟨(some 49), none, .load true 9 (.tmp 48)⟩, ⟨(some 50), none, .mov (.tmp 3)⟩, ⟨(some 51), none, .call 0 0 (.cst (.fn 91)) [(.tmp 49), (.tmp 50)] [] []⟩, ⟨(some 52), none, .bin false .add (.tmp 45) (.tmp 51)⟩, ⟨(some 11), none, .mov (.tmp 52)⟩]
def pcashbookref25_Sumr6 : List GOp := [⟨(some 17), none, .mov (.tmp 12)⟩, ⟨(some 18), none, .bin false .add (.tmp 17) (.cst (.int .i64 1))⟩, ⟨(some 12), none, .mov (.tmp 18)⟩]
def pcashbookref25_Suml7 : AC := (.keep [] [(0, false), (1, false), (2, false), (3, false), (4, false), (11, false), (12, false)] [] [] [] (.seq (.seq (.ops pcashbookref25_Sumr3) (.cond (.tmp 16) .skip (.exit 0))) (.seq (.pass 1 (.seq (.ops pcashbookref25_Sumr4) (.cond (.tmp 44) (.ops pcashbookref25_Sumr5) .skip))) (.keep [] [(0, false), (1, false), (2, false), (3, false), (4, false), (11, false), (12, false)] [] [] [] (.ops pcashbookref25_Sumr6)))))
def pcashbookref25_Sumr8 : List GOp := [⟨(some 53), none, .mov (.tmp 11)⟩, ⟨(some 10), none, .mov (.tmp 53)⟩]
def pcashbookref25_Sumb : AC := (.seq (.ops pcashbookref25_Sumr0) (.seq (.ops pcashbookref25_Sumr1) (.seq (.seq (.ops pcashbookref25_Sumr2) (.block 0 (.loop [0, 1, 2, 3, 4, 11, 12] [] pcashbookref25_Suml7))) (.seq (.keep [] [(11, false)] [] [] [] (.ops pcashbookref25_Sumr8)) (.keep [] [(10, false)] [] [] [] .ret)))))
def pcashbookref25_Sum : Fd := ⟨5, [.tmp 10], [], pcashbookref25_Sumb⟩
theorem pcashbookref25_Sum_ag : agreeF Tryz.prog Tryz.f46 pcashbookref25_Sum = true := by kernel_rfl
theorem cashbookref25_Sum_ok {l1 : List T_api_Hold} {acc2 : Int} {cur3 : Int} {now4 : Int} {rank5 : Int} {r : Int} (h : cashbookref25_Sum l1 acc2 cur3 now4 rank5 = some r) : Contract Tryz.prog 46 [.pv (.slice (List.map T_api_Hold.pv l1)), .pv (.int .i64 acc2), .pv (.int .i64 cur3), .pv (.int .i32 now4), .pv (.int .i64 rank5)] [] ⟨.pv (.int .i64 r), [], []⟩ := by
 refine contract_fin hm Tryz.func46 pcashbookref25_Sum_ag (by kernel_rfl) ?_
 unfold cashbookref25_Sum at h
 refine W.seqOps (RunR.all (by kernel_rfl)) ?_
 refine W.seqOps (RunR.all (by kernel_rfl)) ?_
 refine W.assoc ?_
 refine W.seqOps (RunR.all (by kernel_rfl)) ?_
 replace h := bindS h
 obtain ⟨j6, hj6, h⟩ := h
 refine W.join (j := j6) (fun p σ => σ.tidy [] [(11, false)] [] [] [] = ⟨[(11, .pv (.int .i64 p))], []⟩) ?_ (fun σj6 hsj6 => ?_)
 ·refine W.blockLoop (fun q σ => ((σ.forget [0, 1, 2, 3, 4, 11, 12]).killAll []).tidy [] [(0, false), (1, false), (2, false), (3, false), (4, false), (11, false), (12, false)] [] [] [] = ⟨[(0, .pv (.slice (List.map T_api_Hold.pv l1))), (1, .pv (.int .i64 acc2)), (2, .pv (.int .i64 cur3)), (3, .pv (.int .i32 now4)), (4, .pv (.int .i64 rank5)), (11, .pv (.int .i64 q.1)), (12, .pv (.int .i64 q.2))], []⟩) hj6 ?_ ?_
  ·show _ = _
   kernel_rfl
  ·intro q σj6 oj6 hJj6 h
   obtain ⟨n7, i8⟩ := q
   refine W.keep hJj6 ?_
   refine W.assoc ?_
   refine W.seqOps (RunR.stat 2 (by kernel_rfl) (RunR.dyn (Step.lenT (f := T_api_Hold.pv) (l := l1) (by kernel_rfl)) (RunR.all (by kernel_rfl)))) ?_
   refine W.seqCond (t := decide (i8 < (l1.length : Int))) (by kernel_rfl) h (fun hc h' => ?_) (fun hc h' => ?_)
   ·replace h := h'
    refine W.seqSkip ?_
    refine W.seqPass ?_
    refine W.assoc ?_
    replace h := bindS h
    obtain ⟨x9, hx9, h⟩ := h
    replace h := bindS h
    obtain ⟨c10, hc10, h⟩ := h
    replace h := bindS h
    obtain ⟨x11, hx11, h⟩ := h
    replace h := bindS h
    obtain ⟨c12, hc12, h⟩ := h
    replace h := bindS h
    obtain ⟨x13, hx13, h⟩ := h
    refine W.seqOps (RunR.stat 2 (by kernel_rfl) (RunR.dyn (Step.idxT (f := T_api_Hold.pv) (l := l1) (n := i8) (e := x9) (k := .i64) (by kernel_rfl) (by kernel_rfl) hx9 (by kernel_rfl)) (RunR.stat 4 (by kernel_rfl) (RunR.dyn (Step.name (f := eBool) (e := (x9.f_Acc == acc2)) (c := c10) (by kernel_rfl) hc10) (RunR.puts 2 [(28, (bif c10 then (.pv (.int .i64 i8)) else (.tup []))), (27, (bif c10 then (.pv (.slice (List.map T_api_Hold.pv l1))) else (.tup [])))] (by cases c10 <;> kernel_rfl) (RunR.dyn (Step.gdG c10 (by kernel_rfl) (by
       cases c10
       ·exact .inl ⟨by kernel_rfl, by kernel_rfl⟩
       ·exact .inr ⟨by kernel_rfl, by kernel_rfl, Step.idxT (f := T_api_Hold.pv) (l := l1) (n := i8) (e := x11) (k := .i64) (by kernel_rfl) (by kernel_rfl) hx11 (by kernel_rfl)⟩)) (RunR.puts 6 [(35, .pv (.bool (c10 && (x11.f_Amount.f_Cur == cur3)))), (34, (bif c10 then (.pv (.bool (x11.f_Amount.f_Cur == cur3))) else (.tup []))), (33, (bif c10 then (.pv (.int .i64 cur3)) else (.tup []))), (32, (bif c10 then (.pv (.int .i64 x11.f_Amount.f_Cur)) else (.tup []))), (31, (bif c10 then (.ipv (T_api_Hold.pv x11) 2) else (.tup []))), (30, (bif c10 then (.ipv (T_api_Hold.pv x11) 2) else (.tup [])))] (by cases c10 <;> kernel_rfl) (RunR.dyn (Step.name (f := eBool) (e := (c10 && (x11.f_Amount.f_Cur == cur3))) (c := c12) (by kernel_rfl) hc12) (RunR.puts 2 [(38, (bif c12 then (.pv (.int .i64 i8)) else (.tup []))), (37, (bif c12 then (.pv (.slice (List.map T_api_Hold.pv l1))) else (.tup [])))] (by cases c12 <;> kernel_rfl) (RunR.dyn (Step.gdG c12 (by kernel_rfl) (by
       cases c12
       ·exact .inl ⟨by kernel_rfl, by kernel_rfl⟩
       ·exact .inr ⟨by kernel_rfl, by kernel_rfl, Step.idxT (f := T_api_Hold.pv) (l := l1) (n := i8) (e := x13) (k := .i64) (by kernel_rfl) (by kernel_rfl) hx13 (by kernel_rfl)⟩)) (RunR.puts 5 [(44, .pv (.bool (c12 && (decide (x13.f_Rank ≥ rank5))))), (43, (bif c12 then (.pv (.bool (decide (x13.f_Rank ≥ rank5)))) else (.tup []))), (42, (bif c12 then (.pv (.int .i64 rank5)) else (.tup []))), (41, (bif c12 then (.pv (.int .i64 x13.f_Rank)) else (.tup []))), (40, (bif c12 then (.ipv (T_api_Hold.pv x13) 4) else (.tup [])))] (by cases c12 <;> kernel_rfl) ((.nil _))))))))))))) ?_
    replace h := bindS h
    obtain ⟨j14, hj14, h⟩ := h
    refine W.join (j := j14) (fun p σ => σ.tidy [] [(0, false), (1, false), (2, false), (3, false), (4, false), (11, false), (12, false)] [] [] [] = ⟨[(0, .pv (.slice (List.map T_api_Hold.pv l1))), (1, .pv (.int .i64 acc2)), (2, .pv (.int .i64 cur3)), (3, .pv (.int .i32 now4)), (4, .pv (.int .i64 rank5)), (11, .pv (.int .i64 p)), (12, .pv (.int .i64 i8))], []⟩) ?_ (fun σj14 hsj14 => ?_)
    ·replace h := hj14
     refine W.condI (t := (c12 && (decide (x13.f_Rank ≥ rank5)))) (by kernel_rfl) h (fun hc h' => ?_) (fun hc h' => ?_)
     ·replace h := h'
      replace h := bindS h
      obtain ⟨x15, hx15, h⟩ := h
      replace h := bindS h
      obtain ⟨x16, hx16, h⟩ := h
      refine W.ops (RunR.stat 3 (by kernel_rfl) (RunR.dyn (Step.idxT (f := T_api_Hold.pv) (l := l1) (n := i8) (e := x15) (k := .i64) (by kernel_rfl) (by kernel_rfl) hx15 (by kernel_rfl)) (RunR.stat 2 (by kernel_rfl) (RunR.cons (tab_cons (on := true) (fun _ => cashbookref25_Rest_ok hx16) tab_nil) (Step.call0 (g := 91) (caps := []) (v := .pv (.int .i64 x16)) (by kernel_rfl) (by kernel_rfl) (by kernel_rfl) (tab_hit (by kernel_rfl)) (by kernel_rfl)) (RunR.all (by kernel_rfl)))))) ?_
      cases h
      exact (normw (by (show _ = _); kernel_rfl))
     ·replace h := h'
      cases h
      exact W.skip ((normw (by (show _ = _); kernel_rfl)))
    ·refine W.keep hsj14 ?_
     refine W.ops (RunR.all (by kernel_rfl)) ?_
     cases h
     exact (outw_in (by (show _ = _); kernel_rfl))
   ·replace h := h'
    cases h
    exact W.seqExit ((outw_out exit_ne (bnorm_x (by (show _ = _); kernel_rfl))))
 ·refine W.seqKeep hsj6 ?_
  refine W.seqOps (RunR.all (by kernel_rfl)) ?_
  refine W.keep rfl ?_
  cases h
  exact W.ret ((fin_ret (by kernel_rfl)))
def pcashbookref26_Freer0 : List GOp := [⟨(some 4), none, .box (.tmp 0)⟩, ⟨(some 8), none, .mov (.cst (.int .i64 0))⟩]
def pcashbookref26_Freer1 : List GOp := [⟨(some 9), none, .load true 5 (.tmp 4)⟩, ⟨(some 10), none, .mov (.tmp 1)⟩, ⟨(some 11), none, .mov (.tmp 2)⟩, ⟨(some 12), none, .call 0 0 (.cst (.fn 45)) [(.tmp 9), (.tmp 10), (.tmp 11)] [] []⟩, ⟨(some 13), none, .fld 3 (.tmp 4)⟩, ⟨(some 14), none, .load false 1 (.tmp 13)⟩, ⟨(some 15), none, .mov (.tmp 1)⟩, ⟨(some 16), none, .load true 5 (.tmp 4)⟩, ⟨(some 17), none, .mov (.tmp 1)⟩, ⟨(some 18), none, .call 0 0 (.cst (.fn 17)) [(.tmp 16), (.tmp 17)] [] []⟩, ⟨(some 19), none, .mov (.tmp 2)⟩, ⟨(some 20), none, .mov (.tmp 3)⟩, ⟨(some 21), none, .call 0 0 (.cst (.fn 46)) [(.tmp 14), (.tmp 15), (.tmp 18), (.tmp 19), (.tmp 20)] [] []⟩, ⟨(some 22), none, .bin false .sub (.tmp 12) (.tmp 21)⟩, ⟨(some 8), none, .mov (.tmp 22)⟩]
def pcashbookref26_Freeb : AC := (.seq (.ops pcashbookref26_Freer0) (.seq (.draw [] pcashbookref26_Freer1) (.keep [] [(8, false)] [] [.loc 4 0] [] .ret)))
def pcashbookref26_Free : Fd := ⟨4, [.tmp 8], [], pcashbookref26_Freeb⟩
theorem pcashbookref26_Free_ag : agreeF Tryz.prog Tryz.f16 pcashbookref26_Free = true := by kernel_rfl
theorem cashbookref26_Free_ok {t1 : T_api_Till} {acc2 : Int} {now3 : Int} {rank4 : Int} {r : Int} (h : cashbookref26_Free t1 acc2 now3 rank4 = some r) : Contract Tryz.prog 16 [.pv (T_api_Till.pv t1), .pv (.int .i64 acc2), .pv (.int .i32 now3), .pv (.int .i64 rank4)] [] ⟨.pv (.int .i64 r), [], []⟩ := by
 refine contract_fin hm Tryz.func16 pcashbookref26_Free_ag (by kernel_rfl) ?_
 unfold cashbookref26_Free at h
 refine W.seqOps (RunR.all (by kernel_rfl)) ?_
 replace h := bindS h
 obtain ⟨x5, hx5, h⟩ := h
 replace h := bindS h
 obtain ⟨x6, hx6, h⟩ := h
 replace h := bindS h
 obtain ⟨x7, hx7, h⟩ := h
 refine W.seqDraw (tab_cons (on := true) (fun _ => cashbookref26_All_ok hx5) (tab_cons (on := true) (fun _ => cashbookref26_Cur_ok hx6) (tab_cons (on := true) (fun _ => cashbookref25_Sum_ok hx7) tab_nil))) (Run.stat 3 (by kernel_rfl) (Run.dyn (Step.call0 (g := 45) (caps := []) (v := .pv (.int .i64 x5)) (by kernel_rfl) (by kernel_rfl) (by kernel_rfl) (tab_hit (by kernel_rfl)) (by kernel_rfl)) (Run.stat 5 (by kernel_rfl) (Run.dyn (Step.call0 (g := 17) (caps := []) (v := .pv (.int .i64 x6)) (by kernel_rfl) (by kernel_rfl) (by kernel_rfl) (tab_next rfl (tab_hit (by kernel_rfl))) (by kernel_rfl)) (Run.stat 2 (by kernel_rfl) (Run.dyn (Step.call0 (g := 46) (caps := []) (v := .pv (.int .i64 x7)) (by kernel_rfl) (by kernel_rfl) (by kernel_rfl) (tab_next rfl (tab_next rfl (tab_hit (by kernel_rfl)))) (by kernel_rfl)) (Run.all (by kernel_rfl)))))))) ?_
 refine W.keep rfl ?_
 cases h
 exact W.ret ((fin_ret (by kernel_rfl)))
def pcashbooklaw26_amountRightr0 : List GOp := [⟨(some 1), none, .box (.tmp 0)⟩, ⟨(some 2), none, .mov (.cst (.bool false))⟩]
def pcashbooklaw26_amountRightr1 : List GOp := [⟨(some 3), none, .fld 1 (.tmp 1)⟩, ⟨(some 4), none, .load false 1 (.tmp 3)⟩, ⟨(some 5), none, .bin false .geq (.tmp 4) (.cst (.int .i64 1))⟩, ⟨(some 6), none, .mov (.tmp 5)⟩, ⟨(some 7), (some (6, true)), .fld 1 (.tmp 1)⟩, ⟨(some 8), (some (6, true)), .load false 1 (.tmp 7)⟩, ⟨(some 9), (some (6, true)), .bin false .leq (.tmp 8) (.cst (.int .i64 1000000000000000))⟩, ⟨(some 10), none, .pick (.tmp 6) (.tmp 9) (.cst (.bool false))⟩, ⟨(some 2), none, .mov (.tmp 10)⟩]
def pcashbooklaw26_amountRightb : AC := (.seq (.ops pcashbooklaw26_amountRightr0) (.seq (.ops pcashbooklaw26_amountRightr1) (.keep [] [(2, false)] [] [.loc 1 0] [] .ret)))
def pcashbooklaw26_amountRight : Fd := ⟨1, [.tmp 2], [], pcashbooklaw26_amountRightb⟩
theorem pcashbooklaw26_amountRight_ag : agreeF Tryz.prog Tryz.f18 pcashbooklaw26_amountRight = true := by kernel_rfl
theorem cashbooklaw26_amountRight_ok {m1 : T_api_Money} {r : Bool} (h : cashbooklaw26_amountRight m1 = some r) : Contract Tryz.prog 18 [.pv (T_api_Money.pv m1)] [] ⟨.pv (.bool r), [], []⟩ := by
 refine contract_fin hm Tryz.func18 pcashbooklaw26_amountRight_ag (by kernel_rfl) ?_
 unfold cashbooklaw26_amountRight at h
 refine W.seqOps (RunR.all (by kernel_rfl)) ?_
 replace h := bindS h
 obtain ⟨c2, hc2, h⟩ := h
 refine W.seqOps (RunR.stat 3 (by kernel_rfl) (RunR.dyn (Step.name (f := eBool) (e := decide (m1.f_Minor ≥ 1)) (c := c2) (by kernel_rfl) hc2) (RunR.puts 4 [(10, .pv (.bool (c2 && (decide (m1.f_Minor ≤ 1000000000000000))))), (9, (bif c2 then (.pv (.bool (decide (m1.f_Minor ≤ 1000000000000000)))) else (.tup []))), (8, (bif c2 then (.pv (.int .i64 m1.f_Minor)) else (.tup []))), (7, (bif c2 then (.ptr (.loc 1 0) 1) else (.tup [])))] (by cases c2 <;> kernel_rfl) (RunR.all (by kernel_rfl))))) ?_
 refine W.keep rfl ?_
 cases h
 exact W.ret ((fin_ret (by kernel_rfl)))
def pcashbooklaw26_AvailTellsr0 : List GOp := [⟨(some 5), none, .box (.tmp 0)⟩, ⟨(some 9), none, .box (.tmp 4)⟩, ⟨(some 10), none, .mov (.cst (.bool false))⟩]
def pcashbooklaw26_AvailTellsr1 : List GOp := [⟨(some 19), none, .load true 5 (.tmp 5)⟩, ⟨(some 20), none, .call 0 0 (.cst (.fn 7)) [(.tmp 19)] [] []⟩, ⟨none, none, .store 5 (.tmp 5) (.tmp 20)⟩]
def pcashbooklaw26_AvailTellsr2 : List GOp := [⟨(some 22), none, .load true 5 (.tmp 5)⟩, ⟨(some 23), none, .mov (.tmp 1)⟩, ⟨(some 24), none, .mov (.tmp 2)⟩, ⟨(some 25), none, .call 0 0 (.cst (.fn 8)) [(.tmp 22), (.tmp 23), (.tmp 24)] [] []⟩, ⟨(some 21), none, .mov (.tmp 25)⟩, ⟨(some 26), none, .ext 0 (.tmp 21)⟩, ⟨(some 27), none, .ext 1 (.tmp 21)⟩, ⟨(some 11), none, .mov (.tmp 26)⟩, ⟨(some 12), none, .mov (.tmp 27)⟩]
def pcashbooklaw26_AvailTellsr3 : List GOp := [⟨(some 29), none, .load true 5 (.tmp 5)⟩, ⟨(some 30), none, .mov (.tmp 1)⟩, ⟨(some 31), none, .mov (.tmp 2)⟩, ⟨(some 32), none, .mov (.tmp 3)⟩, ⟨(some 33), none, .call 0 0 (.cst (.fn 9)) [(.tmp 29), (.tmp 30), (.tmp 31), (.tmp 32)] [] []⟩, ⟨(some 28), none, .mov (.tmp 33)⟩, ⟨(some 34), none, .ext 0 (.tmp 28)⟩, ⟨(some 35), none, .ext 1 (.tmp 28)⟩, ⟨(some 13), none, .mov (.tmp 34)⟩, ⟨(some 14), none, .mov (.tmp 35)⟩]
def pcashbooklaw26_AvailTellsr4 : List GOp := [⟨(some 37), none, .load true 5 (.tmp 5)⟩, ⟨(some 38), none, .mov (.tmp 1)⟩, ⟨(some 39), none, .load true 2 (.tmp 9)⟩, ⟨(some 40), none, .mov (.tmp 2)⟩, ⟨(some 41), none, .call 0 0 (.cst (.fn 10)) [(.tmp 37), (.tmp 38), (.tmp 39), (.tmp 40)] [] []⟩, ⟨(some 36), none, .mov (.tmp 41)⟩, ⟨(some 42), none, .ext 0 (.tmp 36)⟩, ⟨(some 43), none, .ext 1 (.tmp 36)⟩, ⟨(some 15), none, .mov (.tmp 42)⟩, ⟨(some 16), none, .mov (.tmp 43)⟩]
def pcashbooklaw26_AvailTellsr5 : List GOp := [⟨(some 44), none, .load true 5 (.tmp 5)⟩, ⟨(some 45), none, .call 0 0 (.cst (.fn 11)) [(.tmp 44)] [] []⟩, ⟨(some 46), none, .load true 5 (.tmp 5)⟩, ⟨(some 47), none, .call 0 0 (.cst (.fn 12)) [(.tmp 46)] [] []⟩, ⟨(some 48), none, .bin true .neq (.tmp 45) (.tmp 47)⟩, ⟨(some 49), none, .mov (.tmp 48)⟩, ⟨(some 50), (some (49, false)), .call 0 0 (.cst (.fn 13)) [] [] []⟩, ⟨(some 51), (some (49, false)), .un .not (.tmp 50)⟩, ⟨(some 52), none, .pick (.tmp 49) (.cst (.bool true)) (.tmp 51)⟩]
def pcashbooklaw26_AvailTellsr6 : List GOp := [⟨(some 10), none, .mov (.cst (.bool false))⟩]
def pcashbooklaw26_AvailTellsr7 : List GOp := [⟨(some 53), none, .load true 5 (.tmp 5)⟩, ⟨(some 54), none, .call 0 0 (.cst (.fn 12)) [(.tmp 53)] [] []⟩, ⟨(some 55), none, .un .not (.tmp 54)⟩]
def pcashbooklaw26_AvailTellsr8 : List GOp := [⟨(some 56), none, .mov (.tmp 12)⟩, ⟨(some 57), none, .bin false .eql (.tmp 56) (.cst (.int .i64 1))⟩, ⟨(some 58), none, .mov (.tmp 57)⟩, ⟨(some 59), (some (58, true)), .mov (.tmp 14)⟩, ⟨(some 60), (some (58, true)), .bin false .eql (.tmp 59) (.cst (.int .i64 1))⟩, ⟨(some 61), none, .pick (.tmp 58) (.tmp 60) (.cst (.bool false))⟩, ⟨(some 62), none, .mov (.tmp 61)⟩, ⟨(some 63), (some (62, true)), .mov (.tmp 16)⟩, ⟨(some 64), (some (62, true)), .bin false .eql (.tmp 63) (.cst (.int .i64 1))⟩, ⟨(some 65), none, .pick (.tmp 62) (.tmp 64) (.cst (.bool false))⟩, ⟨(some 66), none, .mov (.tmp 65)⟩, ⟨(some 67), (some (66, true)), .mov (.tmp 11)⟩, ⟨(some 68), (some (66, true)), .bin false .eql (.tmp 67) (.cst (.int .i64 0))⟩, ⟨(some 69), none, .pick (.tmp 66) (.tmp 68) (.cst (.bool false))⟩, ⟨(some 70), none, .mov (.tmp 69)⟩, ⟨(some 71), (some (70, true)), .mov (.tmp 13)⟩, ⟨(some 72), (some (70, true)), .bin false .eql (.tmp 71) (.cst (.int .i64 0))⟩, ⟨(some 73), none, .pick (.tmp 70) (.tmp 72) (.cst (.bool false))⟩, ⟨(some 74), none, .mov (.tmp 73)⟩, ⟨(some 75), (some (74, true)), .mov (.tmp 15)⟩, ⟨(some 76), (some (74, true)), .un .not (.tmp 75)⟩, ⟨(some 77), none, .pick (.tmp 74) (.tmp 76) (.cst (.bool false))⟩, ⟨(some 10), none, .mov (.tmp 77)⟩]
def pcashbooklaw26_AvailTellsr9 : List GOp := [⟨(some 78), none, .load true 5 (.tmp 5)⟩, ⟨(some 79), none, .mov (.tmp 1)⟩, ⟨(some 80), none, .mov (.tmp 2)⟩, ⟨(some 81), none, .call 0 0 (.cst (.fn 14)) [(.tmp 78), (.tmp 79), (.tmp 80)] [] []⟩, ⟨(some 17), none, .mov (.tmp 81)⟩]
def pcashbooklaw26_AvailTellsr10 : List GOp := [⟨(some 82), none, .mov (.tmp 3)⟩, ⟨(some 83), none, .bin false .lss (.tmp 82) (.cst (.int .i64 0))⟩, ⟨(some 84), none, .mov (.tmp 83)⟩, ⟨(some 85), (some (84, false)), .mov (.tmp 3)⟩, ⟨(some 86), (some (84, false)), .bin false .gtr (.tmp 85) (.cst (.int .i64 9))⟩, ⟨(some 87), none, .pick (.tmp 84) (.cst (.bool true)) (.tmp 86)⟩, ⟨(some 18), none, .mov (.tmp 87)⟩]
def pcashbooklaw26_AvailTellsr11 : List GOp := [⟨(some 88), none, .mov (.tmp 18)⟩, ⟨(some 89), none, .mov (.tmp 88)⟩, ⟨(some 90), (some (89, true)), .mov (.tmp 14)⟩, ⟨(some 91), (some (89, true)), .bin false .neq (.tmp 90) (.cst (.int .i64 1))⟩, ⟨(some 92), (some (89, true)), .mov (.tmp 91)⟩, ⟨(some 93), (some (92, false)), .mov (.tmp 13)⟩, ⟨(some 94), (some (92, false)), .bin false .neq (.tmp 93) (.cst (.int .i64 0))⟩, ⟨(some 95), (some (89, true)), .pick (.tmp 92) (.cst (.bool true)) (.tmp 94)⟩, ⟨(some 96), none, .pick (.tmp 89) (.tmp 95) (.cst (.bool false))⟩]
def pcashbooklaw26_AvailTellsr12 : List GOp := [⟨(some 10), none, .mov (.cst (.bool false))⟩]
def pcashbooklaw26_AvailTellsr13 : List GOp := [⟨(some 97), none, .mov (.tmp 17)⟩, ⟨(some 98), none, .bin false .neq (.tmp 97) (.cst (.int .i64 0))⟩]
def pcashbooklaw26_AvailTellsr14 : List GOp := [⟨(some 99), none, .mov (.tmp 12)⟩, ⟨(some 100), none, .mov (.tmp 17)⟩, ⟨(some 101), none, .bin false .eql (.tmp 99) (.tmp 100)⟩, ⟨(some 102), none, .mov (.tmp 101)⟩, ⟨(some 103), (some (102, true)), .mov (.tmp 16)⟩, ⟨(some 104), (some (102, true)), .mov (.tmp 17)⟩, ⟨(some 105), (some (102, true)), .bin false .eql (.tmp 103) (.tmp 104)⟩, ⟨(some 106), none, .pick (.tmp 102) (.tmp 105) (.cst (.bool false))⟩, ⟨(some 107), none, .mov (.tmp 106)⟩, ⟨(some 108), (some (107, true)), .mov (.tmp 11)⟩, ⟨(some 109), (some (107, true)), .bin false .eql (.tmp 108) (.cst (.int .i64 0))⟩, ⟨(some 110), none, .pick (.tmp 107) (.tmp 109) (.cst (.bool false))⟩, ⟨(some 111), none, .mov (.tmp 110)⟩, ⟨(some 112), (some (111, true)), .mov (.tmp 13)⟩, ⟨(some 113), (some (111, true)), .bin false .eql (.tmp 112) (.cst (.int .i64 0))⟩, ⟨(some 114), none, .pick (.tmp 111) (.tmp 113) (.cst (.bool false))⟩, ⟨(some 115), none, .mov (.tmp 114)⟩, ⟨(some 116), (some (115, true)), .mov (.tmp 15)⟩, ⟨(some 117), (some (115, true)), .un .not (.tmp 116)⟩, ⟨(some 118), none, .pick (.tmp 115) (.tmp 117) (.cst (.bool false))⟩, ⟨(some 119), none, .mov (.tmp 118)⟩, ⟨(some 120), (some (119, true)), .mov (.tmp 18)⟩, ⟨(some 121), (some (119, true)), .mov (.tmp 120)⟩, ⟨(some 122), (some (121, false)), .mov (.tmp 14)⟩, ⟨(some 123), (some (121, false)), .mov (.tmp 17)⟩, ⟨(some 124), (some (121, false)), .bin false .eql (.tmp 122) (.tmp 123)⟩, ⟨(some 125), (some (119, true)), .pick (.tmp 121) (.cst (.bool true)) (.tmp 124)⟩, ⟨(some 126), none, .pick (.tmp 119) (.tmp 125) (.cst (.bool false))⟩, ⟨(some 10), none, .mov (.tmp 126)⟩]
def pcashbooklaw26_AvailTellsr15 : List GOp := [⟨(some 127), none, .mov (.tmp 12)⟩, ⟨(some 128), none, .bin false .neq (.tmp 127) (.cst (.int .i64 0))⟩, ⟨(some 129), none, .mov (.tmp 128)⟩, ⟨(some 130), (some (129, false)), .mov (.tmp 11)⟩, ⟨(some 131), (some (129, false)), .load true 5 (.tmp 5)⟩, ⟨(some 132), (some (129, false)), .mov (.tmp 1)⟩, ⟨(some 133), (some (129, false)), .mov (.tmp 2)⟩, ⟨(some 134), (some (129, false)), .call 0 0 (.cst (.fn 15)) [(.tmp 131), (.tmp 132), (.tmp 133)] [] []⟩, ⟨(some 135), (some (129, false)), .bin false .neq (.tmp 130) (.tmp 134)⟩, ⟨(some 136), none, .pick (.tmp 129) (.cst (.bool true)) (.tmp 135)⟩, ⟨(some 137), none, .mov (.tmp 136)⟩, ⟨(some 138), (some (137, false)), .mov (.tmp 18)⟩, ⟨(some 139), (some (137, false)), .un .not (.tmp 138)⟩, ⟨(some 140), (some (137, false)), .mov (.tmp 139)⟩, ⟨(some 141), (some (140, true)), .mov (.tmp 14)⟩, ⟨(some 142), (some (140, true)), .bin false .neq (.tmp 141) (.cst (.int .i64 0))⟩, ⟨(some 143), (some (140, true)), .mov (.tmp 142)⟩, ⟨(some 144), (some (143, false)), .mov (.tmp 13)⟩, ⟨(some 145), (some (143, false)), .load true 5 (.tmp 5)⟩, ⟨(some 146), (some (143, false)), .mov (.tmp 1)⟩, ⟨(some 147), (some (143, false)), .mov (.tmp 2)⟩, ⟨(some 148), (some (143, false)), .mov (.tmp 3)⟩, ⟨(some 149), (some (143, false)), .call 0 0 (.cst (.fn 16)) [(.tmp 145), (.tmp 146), (.tmp 147), (.tmp 148)] [] []⟩, ⟨(some 150), (some (143, false)), .bin false .neq (.tmp 144) (.tmp 149)⟩, ⟨(some 151), (some (140, true)), .pick (.tmp 143) (.cst (.bool true)) (.tmp 150)⟩, ⟨(some 152), (some (137, false)), .pick (.tmp 140) (.tmp 151) (.cst (.bool false))⟩, ⟨(some 153), none, .pick (.tmp 137) (.cst (.bool true)) (.tmp 152)⟩]
def pcashbooklaw26_AvailTellsr16 : List GOp := [⟨(some 10), none, .mov (.cst (.bool false))⟩]
def pcashbooklaw26_AvailTellsr17 : List GOp := [⟨(some 155), none, .fld 0 (.tmp 9)⟩, ⟨(some 156), none, .load false 1 (.tmp 155)⟩, ⟨(some 157), none, .load true 5 (.tmp 5)⟩, ⟨(some 158), none, .mov (.tmp 1)⟩, ⟨(some 159), none, .call 0 0 (.cst (.fn 17)) [(.tmp 157), (.tmp 158)] [] []⟩, ⟨(some 160), none, .bin false .neq (.tmp 156) (.tmp 159)⟩, ⟨(some 154), none, .mov (.tmp 160)⟩]
def pcashbooklaw26_AvailTellsr18 : List GOp := [⟨(some 161), none, .mov (.tmp 16)⟩, ⟨(some 162), none, .bin false .eql (.tmp 161) (.cst (.int .i64 12))⟩, ⟨(some 163), none, .mov (.tmp 162)⟩, ⟨(some 164), (some (163, true)), .mov (.tmp 15)⟩, ⟨(some 165), (some (163, true)), .un .not (.tmp 164)⟩, ⟨(some 166), none, .pick (.tmp 163) (.tmp 165) (.cst (.bool false))⟩, ⟨(some 10), none, .mov (.tmp 166)⟩]
def pcashbooklaw26_AvailTellsr19 : List GOp := [⟨(some 168), none, .load true 2 (.tmp 9)⟩, ⟨(some 169), none, .call 0 0 (.cst (.fn 18)) [(.tmp 168)] [] []⟩, ⟨(some 170), none, .un .not (.tmp 169)⟩, ⟨(some 167), none, .mov (.tmp 170)⟩]
def pcashbooklaw26_AvailTellsr20 : List GOp := [⟨(some 171), none, .mov (.tmp 16)⟩, ⟨(some 172), none, .bin false .eql (.tmp 171) (.cst (.int .i64 1))⟩, ⟨(some 173), none, .mov (.tmp 172)⟩, ⟨(some 174), (some (173, true)), .mov (.tmp 15)⟩, ⟨(some 175), (some (173, true)), .un .not (.tmp 174)⟩, ⟨(some 176), none, .pick (.tmp 173) (.tmp 175) (.cst (.bool false))⟩, ⟨(some 10), none, .mov (.tmp 176)⟩]
def pcashbooklaw26_AvailTellsr21 : List GOp := [⟨(some 177), none, .mov (.tmp 16)⟩, ⟨(some 178), none, .bin false .eql (.tmp 177) (.cst (.int .i64 0))⟩, ⟨(some 179), none, .mov (.tmp 178)⟩, ⟨(some 180), (some (179, true)), .mov (.tmp 15)⟩, ⟨(some 181), (some (179, true)), .fld 1 (.tmp 9)⟩, ⟨(some 182), (some (179, true)), .load false 1 (.tmp 181)⟩, ⟨(some 183), (some (179, true)), .load true 5 (.tmp 5)⟩, ⟨(some 184), (some (179, true)), .mov (.tmp 1)⟩, ⟨(some 185), (some (179, true)), .mov (.tmp 2)⟩, ⟨(some 186), (some (179, true)), .call 0 0 (.cst (.fn 16)) [(.tmp 183), (.tmp 184), (.tmp 185), (.cst (.int .i64 0))] [] []⟩, ⟨(some 187), (some (179, true)), .bin false .leq (.tmp 182) (.tmp 186)⟩, ⟨(some 188), (some (179, true)), .bin true .eql (.tmp 180) (.tmp 187)⟩, ⟨(some 189), none, .pick (.tmp 179) (.tmp 188) (.cst (.bool false))⟩, ⟨(some 10), none, .mov (.tmp 189)⟩]
def pcashbooklaw26_AvailTellsb : AC := (.seq (.ops pcashbooklaw26_AvailTellsr0) (.seq (.ops pcashbooklaw26_AvailTellsr1) (.seq (.ops pcashbooklaw26_AvailTellsr2) (.seq (.ops pcashbooklaw26_AvailTellsr3) (.seq (.ops pcashbooklaw26_AvailTellsr4) (.seq (.seq (.draw [] pcashbooklaw26_AvailTellsr5) (.cond (.tmp 52) (.seq (.ops pcashbooklaw26_AvailTellsr6) (.keep [] [(10, false)] [] [.loc 5 0, .loc 9 0] [] .ret)) .skip)) (.seq (.seq (.ops pcashbooklaw26_AvailTellsr7) (.cond (.tmp 55) (.seq (.ops pcashbooklaw26_AvailTellsr8) (.keep [] [(10, false)] [] [.loc 5 0, .loc 9 0] [] .ret)) .skip)) (.seq (.ops pcashbooklaw26_AvailTellsr9) (.seq (.ops pcashbooklaw26_AvailTellsr10) (.seq (.seq (.ops pcashbooklaw26_AvailTellsr11) (.cond (.tmp 96) (.seq (.ops pcashbooklaw26_AvailTellsr12) (.keep [] [(10, false)] [] [.loc 5 0, .loc 9 0] [] .ret)) .skip)) (.seq (.seq (.ops pcashbooklaw26_AvailTellsr13) (.cond (.tmp 98) (.seq (.ops pcashbooklaw26_AvailTellsr14) (.keep [] [(10, false)] [] [.loc 5 0, .loc 9 0] [] .ret)) .skip)) (.seq (.seq (.ops pcashbooklaw26_AvailTellsr15) (.cond (.tmp 153) (.seq (.ops pcashbooklaw26_AvailTellsr16) (.keep [] [(10, false)] [] [.loc 5 0, .loc 9 0] [] .ret)) .skip)) (.seq (.pass 0 (.seq (.draw [] pcashbooklaw26_AvailTellsr17) (.cond (.tmp 154) (.seq (.ops pcashbooklaw26_AvailTellsr18) (.keep [] [(10, false)] [] [.loc 5 0, .loc 9 0] [] .ret)) (.seq (.ops pcashbooklaw26_AvailTellsr19) (.cond (.tmp 167) (.seq (.ops pcashbooklaw26_AvailTellsr20) (.keep [] [(10, false)] [] [.loc 5 0, .loc 9 0] [] .ret)) .skip))))) (.seq (.draw [] pcashbooklaw26_AvailTellsr21) (.keep [] [(10, false)] [] [.loc 5 0, .loc 9 0] [] .ret)))))))))))))))
def pcashbooklaw26_AvailTells : Fd := ⟨5, [.tmp 10], [], pcashbooklaw26_AvailTellsb⟩
theorem pcashbooklaw26_AvailTells_ag : agreeF Tryz.prog Tryz.f3 pcashbooklaw26_AvailTells = true := by kernel_rfl
theorem cashbooklaw26_AvailTells_ok {t1 : T_api_Till} {acc2 : Int} {now3 : Int} {rank4 : Int} {amount5 : T_api_Money} {r : Bool} (h : cashbooklaw26_AvailTells t1 acc2 now3 rank4 amount5 = some r) : Contract Tryz.prog 3 [.pv (T_api_Till.pv t1), .pv (.int .i64 acc2), .pv (.int .i32 now3), .pv (.int .i64 rank4), .pv (T_api_Money.pv amount5)] [] ⟨.pv (.bool r), [], []⟩ := by
 refine contract_fin hm Tryz.func3 pcashbooklaw26_AvailTells_ag (by kernel_rfl) ?_
 unfold cashbooklaw26_AvailTells at h
 refine W.seqOps (RunR.all (by kernel_rfl)) ?_
 replace h := bindS h
 obtain ⟨x6, hx6, h⟩ := h
 refine W.seqOps (RunR.stat 1 (by kernel_rfl) (RunR.cons (tab_cons (on := true) (fun _ => cashbooklaw26_few_ok hx6) tab_nil) (Step.call0 (g := 7) (caps := []) (v := .pv (T_api_Till.pv x6)) (by kernel_rfl) (by kernel_rfl) (by kernel_rfl) (tab_hit (by kernel_rfl)) (by kernel_rfl)) (RunR.all (by kernel_rfl)))) ?_
 replace h := bindS h
 obtain ⟨x7, hx7, h⟩ := h
 refine W.seqOps (RunR.stat 3 (by kernel_rfl) (RunR.cons (tab_cons (on := true) (fun _ => avail_Funds_ok hx7) tab_nil) (Step.call0 (g := 8) (caps := []) (v := .tup [.pv (.int .i64 x7.1), .pv (.int .i64 x7.2)]) (by kernel_rfl) (by kernel_rfl) (by kernel_rfl) (tab_hit (by kernel_rfl)) (by kernel_rfl)) (RunR.all (by kernel_rfl)))) ?_
 replace h := bindS h
 obtain ⟨x8, hx8, h⟩ := h
 refine W.seqOps (RunR.stat 4 (by kernel_rfl) (RunR.cons (tab_cons (on := true) (fun _ => avail_Free_ok hx8) tab_nil) (Step.call0 (g := 9) (caps := []) (v := .tup [.pv (.int .i64 x8.1), .pv (.int .i64 x8.2)]) (by kernel_rfl) (by kernel_rfl) (by kernel_rfl) (tab_hit (by kernel_rfl)) (by kernel_rfl)) (RunR.all (by kernel_rfl)))) ?_
 replace h := bindS h
 obtain ⟨x9, hx9, h⟩ := h
 refine W.seqOps (RunR.stat 4 (by kernel_rfl) (RunR.cons (tab_cons (on := true) (fun _ => avail_Pay_ok hx9) tab_nil) (Step.call0 (g := 10) (caps := []) (v := .tup [.pv (.bool x9.1), .pv (.int .i64 x9.2)]) (by kernel_rfl) (by kernel_rfl) (by kernel_rfl) (tab_hit (by kernel_rfl)) (by kernel_rfl)) (RunR.all (by kernel_rfl)))) ?_
 refine W.assoc ?_
 replace h := bindS h
 obtain ⟨x10, hx10, h⟩ := h
 replace h := bindS h
 obtain ⟨x11, hx11, h⟩ := h
 replace h := bindS h
 obtain ⟨c12, hc12, h⟩ := h
 replace h := bindS h
 obtain ⟨x13, hx13, h⟩ := h
 refine W.seqDraw (tab_cons (on := true) (fun _ => avail_Right_ok hx10) (tab_cons (on := true) (fun _ => cashbookref26_Right_ok hx11) (tab_cons (on := (!c12)) (fun hg => cashbooklaw26_alive_ok (gdO_at hg hx13)) tab_nil))) (Run.stat 1 (by kernel_rfl) (Run.dyn (Step.call0 (g := 11) (caps := []) (v := .pv (.bool x10)) (by kernel_rfl) (by kernel_rfl) (by kernel_rfl) (tab_hit (by kernel_rfl)) (by kernel_rfl)) (Run.stat 1 (by kernel_rfl) (Run.dyn (Step.call0 (g := 12) (caps := []) (v := .pv (.bool x11)) (by kernel_rfl) (by kernel_rfl) (by kernel_rfl) (tab_next rfl (tab_hit (by kernel_rfl))) (by kernel_rfl)) (Run.stat 1 (by kernel_rfl) (Run.dyn (Step.name (f := eBool) (e := !(x10 == x11)) (c := c12) (by kernel_rfl) hc12) (Run.dyn (Step.gdG (!c12) (by kernel_rfl) (by
    cases c12
    ·exact .inr ⟨by kernel_rfl, by kernel_rfl, Step.call0 (g := 13) (caps := []) (v := .pv (.bool x13)) (by kernel_rfl) (by kernel_rfl) (by kernel_rfl) (tab_next rfl (tab_next rfl (tab_hit (by kernel_rfl)))) (by kernel_rfl)⟩
    ·exact .inl ⟨by kernel_rfl, by kernel_rfl⟩)) (Run.puts 2 [(52, .pv (.bool (c12 || (!x13)))), (51, (bif !c12 then (.pv (.bool (!x13))) else (.tup [])))] (by cases c12 <;> kernel_rfl) ((Run.nil)))))))))) ?_
 refine W.seqCond (t := (c12 || (!x13))) (by kernel_rfl) h (fun hc h' => ?_) (fun hc h' => ?_)
 ·replace h := h'
  refine W.assoc ?_
  refine W.seqOps (RunR.all (by kernel_rfl)) ?_
  refine W.seqKeep rfl ?_
  cases h
  exact W.seqRet ((fin_ret (by kernel_rfl)))
 ·replace h := h'
  refine W.seqSkip ?_
  refine W.assoc ?_
  replace h := bindS h
  obtain ⟨x14, hx14, h⟩ := h
  refine W.seqOps (RunR.stat 1 (by kernel_rfl) (RunR.cons (tab_cons (on := true) (fun _ => cashbookref26_Right_ok hx14) tab_nil) (Step.call0 (g := 12) (caps := []) (v := .pv (.bool x14)) (by kernel_rfl) (by kernel_rfl) (by kernel_rfl) (tab_hit (by kernel_rfl)) (by kernel_rfl)) (RunR.all (by kernel_rfl)))) ?_
  refine W.seqCond (t := !x14) (by kernel_rfl) h (fun hc h' => ?_) (fun hc h' => ?_)
  ·replace h := h'
   refine W.assoc ?_
   replace h := bindS h
   obtain ⟨c15, hc15, h⟩ := h
   replace h := bindS h
   obtain ⟨c16, hc16, h⟩ := h
   replace h := bindS h
   obtain ⟨c17, hc17, h⟩ := h
   replace h := bindS h
   obtain ⟨c18, hc18, h⟩ := h
   replace h := bindS h
   obtain ⟨c19, hc19, h⟩ := h
   refine W.seqOps (RunR.stat 2 (by kernel_rfl) (RunR.dyn (Step.name (f := eBool) (e := (x7.2 == 1)) (c := c15) (by kernel_rfl) hc15) (RunR.puts 3 [(61, .pv (.bool (c15 && (x8.2 == 1)))), (60, (bif c15 then (.pv (.bool (x8.2 == 1))) else (.tup []))), (59, (bif c15 then (.pv (.int .i64 x8.2)) else (.tup [])))] (by cases c15 <;> kernel_rfl) (RunR.dyn (Step.name (f := eBool) (e := (c15 && (x8.2 == 1))) (c := c16) (by kernel_rfl) hc16) (RunR.puts 3 [(65, .pv (.bool (c16 && (x9.2 == 1)))), (64, (bif c16 then (.pv (.bool (x9.2 == 1))) else (.tup []))), (63, (bif c16 then (.pv (.int .i64 x9.2)) else (.tup [])))] (by cases c16 <;> kernel_rfl) (RunR.dyn (Step.name (f := eBool) (e := (c16 && (x9.2 == 1))) (c := c17) (by kernel_rfl) hc17) (RunR.puts 3 [(69, .pv (.bool (c17 && (x7.1 == 0)))), (68, (bif c17 then (.pv (.bool (x7.1 == 0))) else (.tup []))), (67, (bif c17 then (.pv (.int .i64 x7.1)) else (.tup [])))] (by cases c17 <;> kernel_rfl) (RunR.dyn (Step.name (f := eBool) (e := (c17 && (x7.1 == 0))) (c := c18) (by kernel_rfl) hc18) (RunR.puts 3 [(73, .pv (.bool (c18 && (x8.1 == 0)))), (72, (bif c18 then (.pv (.bool (x8.1 == 0))) else (.tup []))), (71, (bif c18 then (.pv (.int .i64 x8.1)) else (.tup [])))] (by cases c18 <;> kernel_rfl) (RunR.dyn (Step.name (f := eBool) (e := (c18 && (x8.1 == 0))) (c := c19) (by kernel_rfl) hc19) (RunR.puts 3 [(77, .pv (.bool (c19 && (!x9.1)))), (76, (bif c19 then (.pv (.bool (!x9.1))) else (.tup []))), (75, (bif c19 then (.pv (.bool x9.1)) else (.tup [])))] (by cases c19 <;> kernel_rfl) (RunR.all (by kernel_rfl))))))))))))) ?_
   refine W.seqKeep rfl ?_
   cases h
   exact W.seqRet ((fin_ret (by kernel_rfl)))
  ·replace h := h'
   refine W.seqSkip ?_
   replace h := bindS h
   obtain ⟨x20, hx20, h⟩ := h
   refine W.seqOps (RunR.stat 3 (by kernel_rfl) (RunR.cons (tab_cons (on := true) (fun _ => cashbookref26_Why_ok hx20) tab_nil) (Step.call0 (g := 14) (caps := []) (v := .pv (.int .i64 x20)) (by kernel_rfl) (by kernel_rfl) (by kernel_rfl) (tab_hit (by kernel_rfl)) (by kernel_rfl)) (RunR.all (by kernel_rfl)))) ?_
   replace h := bindS h
   obtain ⟨c21, hc21, h⟩ := h
   refine W.seqOps (RunR.stat 2 (by kernel_rfl) (RunR.dyn (Step.name (f := eBool) (e := decide (rank4 < 0)) (c := c21) (by kernel_rfl) hc21) (RunR.puts 3 [(87, .pv (.bool (c21 || (decide (rank4 > 9))))), (86, (bif !c21 then (.pv (.bool (decide (rank4 > 9)))) else (.tup []))), (85, (bif !c21 then (.pv (.int .i64 rank4)) else (.tup [])))] (by cases c21 <;> kernel_rfl) (RunR.all (by kernel_rfl))))) ?_
   refine W.assoc ?_
   replace h := bindS h
   obtain ⟨c22, hc22, h⟩ := h
   replace h := bindS h
   obtain ⟨c23, hc23, h⟩ := h
   refine W.seqOps (RunR.stat 1 (by kernel_rfl) (RunR.dyn (Step.name (f := eBool) (e := (c21 || (decide (rank4 > 9)))) (c := c22) (by kernel_rfl) hc22) (RunR.puts 2 [(91, (bif c22 then (.pv (.bool (x8.2 != 1))) else (.tup []))), (90, (bif c22 then (.pv (.int .i64 x8.2)) else (.tup [])))] (by cases c22 <;> kernel_rfl) (RunR.dyn (Step.gdG c22 (by kernel_rfl) (by
      cases c22
      ·exact .inl ⟨by kernel_rfl, by kernel_rfl⟩
      ·exact .inr ⟨by kernel_rfl, by kernel_rfl, Step.name (f := eBool) (e := (x8.2 != 1)) (c := c23) (by kernel_rfl) hc23⟩)) (RunR.puts 4 [(96, .pv (.bool (c22 && (c23 || (x8.1 != 0))))), (95, (bif c22 then (.pv (.bool (c23 || (x8.1 != 0)))) else (.tup []))), (94, (bif (c22 && (!c23)) then (.pv (.bool (x8.1 != 0))) else (.tup []))), (93, (bif (c22 && (!c23)) then (.pv (.int .i64 x8.1)) else (.tup [])))] (by cases c22 <;> cases c23 <;> kernel_rfl) ((.nil _))))))) ?_
   refine W.seqCond (t := (c22 && (c23 || (x8.1 != 0)))) (by kernel_rfl) h (fun hc h' => ?_) (fun hc h' => ?_)
   ·replace h := h'
    refine W.assoc ?_
    refine W.seqOps (RunR.all (by kernel_rfl)) ?_
    refine W.seqKeep rfl ?_
    cases h
    exact W.seqRet ((fin_ret (by kernel_rfl)))
   ·replace h := h'
    refine W.seqSkip ?_
    refine W.assoc ?_
    refine W.seqOps (RunR.all (by kernel_rfl)) ?_
    refine W.seqCond (t := (x20 != 0)) (by kernel_rfl) h (fun hc h' => ?_) (fun hc h' => ?_)
    ·replace h := h'
     refine W.assoc ?_
     replace h := bindS h
     obtain ⟨c24, hc24, h⟩ := h
     replace h := bindS h
     obtain ⟨c25, hc25, h⟩ := h
     replace h := bindS h
     obtain ⟨c26, hc26, h⟩ := h
     replace h := bindS h
     obtain ⟨c27, hc27, h⟩ := h
     replace h := bindS h
     obtain ⟨c28, hc28, h⟩ := h
     replace h := bindS h
     obtain ⟨c29, hc29, h⟩ := h
     refine W.seqOps (RunR.stat 3 (by kernel_rfl) (RunR.dyn (Step.name (f := eBool) (e := (x7.2 == x20)) (c := c24) (by kernel_rfl) hc24) (RunR.puts 4 [(106, .pv (.bool (c24 && (x9.2 == x20)))), (105, (bif c24 then (.pv (.bool (x9.2 == x20))) else (.tup []))), (104, (bif c24 then (.pv (.int .i64 x20)) else (.tup []))), (103, (bif c24 then (.pv (.int .i64 x9.2)) else (.tup [])))] (by cases c24 <;> kernel_rfl) (RunR.dyn (Step.name (f := eBool) (e := (c24 && (x9.2 == x20))) (c := c25) (by kernel_rfl) hc25) (RunR.puts 3 [(110, .pv (.bool (c25 && (x7.1 == 0)))), (109, (bif c25 then (.pv (.bool (x7.1 == 0))) else (.tup []))), (108, (bif c25 then (.pv (.int .i64 x7.1)) else (.tup [])))] (by cases c25 <;> kernel_rfl) (RunR.dyn (Step.name (f := eBool) (e := (c25 && (x7.1 == 0))) (c := c26) (by kernel_rfl) hc26) (RunR.puts 3 [(114, .pv (.bool (c26 && (x8.1 == 0)))), (113, (bif c26 then (.pv (.bool (x8.1 == 0))) else (.tup []))), (112, (bif c26 then (.pv (.int .i64 x8.1)) else (.tup [])))] (by cases c26 <;> kernel_rfl) (RunR.dyn (Step.name (f := eBool) (e := (c26 && (x8.1 == 0))) (c := c27) (by kernel_rfl) hc27) (RunR.puts 3 [(118, .pv (.bool (c27 && (!x9.1)))), (117, (bif c27 then (.pv (.bool (!x9.1))) else (.tup []))), (116, (bif c27 then (.pv (.bool x9.1)) else (.tup [])))] (by cases c27 <;> kernel_rfl) (RunR.dyn (Step.name (f := eBool) (e := (c27 && (!x9.1))) (c := c28) (by kernel_rfl) hc28) (RunR.puts 1 [(120, (bif c28 then (.pv (.bool (c21 || (decide (rank4 > 9))))) else (.tup [])))] (by cases c28 <;> kernel_rfl) (RunR.dyn (Step.gdG c28 (by kernel_rfl) (by
        cases c28
        ·exact .inl ⟨by kernel_rfl, by kernel_rfl⟩
        ·exact .inr ⟨by kernel_rfl, by kernel_rfl, Step.name (f := eBool) (e := (c21 || (decide (rank4 > 9)))) (c := c29) (by kernel_rfl) hc29⟩)) (RunR.puts 5 [(126, .pv (.bool (c28 && (c29 || (x8.2 == x20))))), (125, (bif c28 then (.pv (.bool (c29 || (x8.2 == x20)))) else (.tup []))), (124, (bif (c28 && (!c29)) then (.pv (.bool (x8.2 == x20))) else (.tup []))), (123, (bif (c28 && (!c29)) then (.pv (.int .i64 x20)) else (.tup []))), (122, (bif (c28 && (!c29)) then (.pv (.int .i64 x8.2)) else (.tup [])))] (by cases c28 <;> cases c29 <;> kernel_rfl) (RunR.all (by kernel_rfl))))))))))))))) ?_
     refine W.seqKeep rfl ?_
     cases h
     exact W.seqRet ((fin_ret (by kernel_rfl)))
    ·replace h := h'
     refine W.seqSkip ?_
     refine W.assoc ?_
     replace h := bindS h
     obtain ⟨c30, hc30, h⟩ := h
     replace h := bindS h
     obtain ⟨x31, hx31, h⟩ := h
     replace h := bindS h
     obtain ⟨c32, hc32, h⟩ := h
     replace h := bindS h
     obtain ⟨c33, hc33, h⟩ := h
     replace h := bindS h
     obtain ⟨c34, hc34, h⟩ := h
     replace h := bindS h
     obtain ⟨x35, hx35, h⟩ := h
     refine W.seqOps (RunR.stat 2 (by kernel_rfl) (RunR.dyn (Step.name (f := eBool) (e := (x7.2 != 0)) (c := c30) (by kernel_rfl) hc30) (RunR.puts 4 [(133, (bif !c30 then (.pv (.int .i32 now3)) else (.tup []))), (132, (bif !c30 then (.pv (.int .i64 acc2)) else (.tup []))), (131, (bif !c30 then (.pv (T_api_Till.pv x6)) else (.tup []))), (130, (bif !c30 then (.pv (.int .i64 x7.1)) else (.tup [])))] (by cases c30 <;> kernel_rfl) (RunR.cons (tab_cons (on := (!c30)) (fun hg => cashbookref26_Funds_ok (gdO_at hg hx31)) tab_nil) (Step.gdG (!c30) (by kernel_rfl) (by
        cases c30
        ·exact .inr ⟨by kernel_rfl, by kernel_rfl, Step.call0 (g := 15) (caps := []) (v := .pv (.int .i64 x31)) (by kernel_rfl) (by kernel_rfl) (by kernel_rfl) (tab_hit (by kernel_rfl)) (by kernel_rfl)⟩
        ·exact .inl ⟨by kernel_rfl, by kernel_rfl⟩)) (RunR.puts 2 [(136, .pv (.bool (c30 || (x7.1 != x31)))), (135, (bif !c30 then (.pv (.bool (x7.1 != x31))) else (.tup [])))] (by cases c30 <;> kernel_rfl) (RunR.dyn (Step.name (f := eBool) (e := (c30 || (x7.1 != x31))) (c := c32) (by kernel_rfl) hc32) (RunR.puts 2 [(139, (bif !c32 then (.pv (.bool (!(c21 || (decide (rank4 > 9)))))) else (.tup []))), (138, (bif !c32 then (.pv (.bool (c21 || (decide (rank4 > 9))))) else (.tup [])))] (by cases c32 <;> kernel_rfl) (RunR.dyn (Step.gdG (!c32) (by kernel_rfl) (by
        cases c32
        ·exact .inr ⟨by kernel_rfl, by kernel_rfl, Step.name (f := eBool) (e := !(c21 || (decide (rank4 > 9)))) (c := c33) (by kernel_rfl) hc33⟩
        ·exact .inl ⟨by kernel_rfl, by kernel_rfl⟩)) (RunR.puts 2 [(142, (bif ((!c32) && c33) then (.pv (.bool (x8.2 != 0))) else (.tup []))), (141, (bif ((!c32) && c33) then (.pv (.int .i64 x8.2)) else (.tup [])))] (by cases c32 <;> cases c33 <;> kernel_rfl) (RunR.dyn (Step.gdG ((!c32) && c33) (by kernel_rfl) (by
        cases c32
        ·cases c33
         ·exact .inl ⟨by kernel_rfl, by kernel_rfl⟩
         ·exact .inr ⟨by kernel_rfl, by kernel_rfl, Step.name (f := eBool) (e := (x8.2 != 0)) (c := c34) (by kernel_rfl) hc34⟩
        ·cases c33
         ·exact .inl ⟨by kernel_rfl, by kernel_rfl⟩
         ·exact .inl ⟨by kernel_rfl, by kernel_rfl⟩)) (RunR.puts 1 [(144, (bif ((!c32) && c33 && (!c34)) then (.pv (.int .i64 x8.1)) else (.tup [])))] (by cases c32 <;> cases c33 <;> cases c34 <;> kernel_rfl) (RunR.puts 1 [(145, (bif ((!c32) && c33 && (!c34)) then (.pv (T_api_Till.pv x6)) else (.tup [])))] (by cases c32 <;> cases c33 <;> cases c34 <;> kernel_rfl) (RunR.puts 1 [(146, (bif ((!c32) && c33 && (!c34)) then (.pv (.int .i64 acc2)) else (.tup [])))] (by cases c32 <;> cases c33 <;> cases c34 <;> kernel_rfl) (RunR.puts 1 [(147, (bif ((!c32) && c33 && (!c34)) then (.pv (.int .i32 now3)) else (.tup [])))] (by cases c32 <;> cases c33 <;> cases c34 <;> kernel_rfl) (RunR.puts 1 [(148, (bif ((!c32) && c33 && (!c34)) then (.pv (.int .i64 rank4)) else (.tup [])))] (by cases c32 <;> cases c33 <;> cases c34 <;> kernel_rfl) (RunR.cons (tab_cons (on := ((!c32) && c33 && (!c34))) (fun hg => cashbookref26_Free_ok (gdO_at hg hx35)) tab_nil) (Step.gdG ((!c32) && c33 && (!c34)) (by kernel_rfl) (by
        cases c32
        ·cases c33
         ·cases c34
          ·exact .inl ⟨by kernel_rfl, by kernel_rfl⟩
          ·exact .inl ⟨by kernel_rfl, by kernel_rfl⟩
         ·cases c34
          ·exact .inr ⟨by kernel_rfl, by kernel_rfl, Step.call0 (g := 16) (caps := []) (v := .pv (.int .i64 x35)) (by kernel_rfl) (by kernel_rfl) (by kernel_rfl) (tab_hit (by kernel_rfl)) (by kernel_rfl)⟩
          ·exact .inl ⟨by kernel_rfl, by kernel_rfl⟩
        ·cases c33
         ·cases c34
          ·exact .inl ⟨by kernel_rfl, by kernel_rfl⟩
          ·exact .inl ⟨by kernel_rfl, by kernel_rfl⟩
         ·cases c34
          ·exact .inl ⟨by kernel_rfl, by kernel_rfl⟩
          ·exact .inl ⟨by kernel_rfl, by kernel_rfl⟩)) (RunR.puts 1 [(150, (bif ((!c32) && c33 && (!c34)) then (.pv (.bool (x8.1 != x35))) else (.tup [])))] (by cases c32 <;> cases c33 <;> cases c34 <;> kernel_rfl) (RunR.puts 1 [(151, (bif ((!c32) && c33) then (.pv (.bool (c34 || (x8.1 != x35)))) else (.tup [])))] (by cases c34 <;> cases c32 <;> cases c33 <;> kernel_rfl) (RunR.puts 2 [(153, .pv (.bool (c32 || (c33 && (c34 || (x8.1 != x35)))))), (152, (bif !c32 then (.pv (.bool (c33 && (c34 || (x8.1 != x35))))) else (.tup [])))] (by cases c33 <;> cases c32 <;> kernel_rfl) ((.nil _))))))))))))))))))))) ?_
     refine W.seqCond (t := (c32 || (c33 && (c34 || (x8.1 != x35))))) (by kernel_rfl) h (fun hc h' => ?_) (fun hc h' => ?_)
     ·replace h := h'
      refine W.assoc ?_
      refine W.seqOps (RunR.all (by kernel_rfl)) ?_
      refine W.seqKeep rfl ?_
      cases h
      exact W.seqRet ((fin_ret (by kernel_rfl)))
     ·replace h := h'
      refine W.seqSkip ?_
      refine W.seqPass ?_
      refine W.assoc ?_
      replace h := bindS h
      obtain ⟨x36, hx36, h⟩ := h
      refine W.seqDraw (tab_cons (on := true) (fun _ => cashbookref26_Cur_ok hx36) tab_nil) (Run.stat 4 (by kernel_rfl) (Run.dyn (Step.call0 (g := 17) (caps := []) (v := .pv (.int .i64 x36)) (by kernel_rfl) (by kernel_rfl) (by kernel_rfl) (tab_hit (by kernel_rfl)) (by kernel_rfl)) (Run.all (by kernel_rfl)))) ?_
      refine W.seqCond (t := (amount5.f_Cur != x36)) (by kernel_rfl) h (fun hc h' => ?_) (fun hc h' => ?_)
      ·replace h := h'
       refine W.assoc ?_
       replace h := bindS h
       obtain ⟨c37, hc37, h⟩ := h
       refine W.seqOps (RunR.stat 2 (by kernel_rfl) (RunR.dyn (Step.name (f := eBool) (e := (x9.2 == 12)) (c := c37) (by kernel_rfl) hc37) (RunR.puts 3 [(166, .pv (.bool (c37 && (!x9.1)))), (165, (bif c37 then (.pv (.bool (!x9.1))) else (.tup []))), (164, (bif c37 then (.pv (.bool x9.1)) else (.tup [])))] (by cases c37 <;> kernel_rfl) (RunR.all (by kernel_rfl))))) ?_
       refine W.seqKeep rfl ?_
       cases h
       exact W.seqRet ((fin_ret (by kernel_rfl)))
      ·replace h := h'
       refine W.assoc ?_
       replace h := bindS h
       obtain ⟨x38, hx38, h⟩ := h
       refine W.seqOps (RunR.stat 1 (by kernel_rfl) (RunR.cons (tab_cons (on := true) (fun _ => cashbooklaw26_amountRight_ok hx38) tab_nil) (Step.call0 (g := 18) (caps := []) (v := .pv (.bool x38)) (by kernel_rfl) (by kernel_rfl) (by kernel_rfl) (tab_hit (by kernel_rfl)) (by kernel_rfl)) (RunR.all (by kernel_rfl)))) ?_
       refine W.seqCond (t := !x38) (by kernel_rfl) h (fun hc h' => ?_) (fun hc h' => ?_)
       ·replace h := h'
        refine W.assoc ?_
        replace h := bindS h
        obtain ⟨c39, hc39, h⟩ := h
        refine W.seqOps (RunR.stat 2 (by kernel_rfl) (RunR.dyn (Step.name (f := eBool) (e := (x9.2 == 1)) (c := c39) (by kernel_rfl) hc39) (RunR.puts 3 [(176, .pv (.bool (c39 && (!x9.1)))), (175, (bif c39 then (.pv (.bool (!x9.1))) else (.tup []))), (174, (bif c39 then (.pv (.bool x9.1)) else (.tup [])))] (by cases c39 <;> kernel_rfl) (RunR.all (by kernel_rfl))))) ?_
        refine W.seqKeep rfl ?_
        cases h
        exact W.seqRet ((fin_ret (by kernel_rfl)))
       ·replace h := h'
        refine W.seqSkip ?_
        replace h := bindS h
        obtain ⟨c40, hc40, h⟩ := h
        replace h := bindS h
        obtain ⟨x41, hx41, h⟩ := h
        refine W.seqDraw (tab_cons (on := c40) (fun hg => cashbookref26_Free_ok (gdO_at hg hx41)) tab_nil) (Run.stat 2 (by kernel_rfl) (Run.dyn (Step.name (f := eBool) (e := (x9.2 == 0)) (c := c40) (by kernel_rfl) hc40) (Run.puts 6 [(185, (bif c40 then (.pv (.int .i32 now3)) else (.tup []))), (184, (bif c40 then (.pv (.int .i64 acc2)) else (.tup []))), (183, (bif c40 then (.pv (T_api_Till.pv x6)) else (.tup []))), (182, (bif c40 then (.pv (.int .i64 amount5.f_Minor)) else (.tup []))), (181, (bif c40 then (.ptr (.loc 9 0) 1) else (.tup []))), (180, (bif c40 then (.pv (.bool x9.1)) else (.tup [])))] (by cases c40 <;> kernel_rfl) (Run.dyn (Step.gdG c40 (by kernel_rfl) (by
           cases c40
           ·exact .inl ⟨by kernel_rfl, by kernel_rfl⟩
           ·exact .inr ⟨by kernel_rfl, by kernel_rfl, Step.call0 (g := 16) (caps := []) (v := .pv (.int .i64 x41)) (by kernel_rfl) (by kernel_rfl) (by kernel_rfl) (tab_hit (by kernel_rfl)) (by kernel_rfl)⟩)) (Run.puts 3 [(189, .pv (.bool (c40 && (x9.1 == (decide (amount5.f_Minor ≤ x41)))))), (188, (bif c40 then (.pv (.bool (x9.1 == (decide (amount5.f_Minor ≤ x41))))) else (.tup []))), (187, (bif c40 then (.pv (.bool (decide (amount5.f_Minor ≤ x41)))) else (.tup [])))] (by cases c40 <;> kernel_rfl) (Run.all (by kernel_rfl))))))) ?_
        refine W.keep rfl ?_
        cases h
        exact W.ret ((fin_ret (by kernel_rfl)))
end Go.Av.G
end
section
set_option linter.unusedVariables false
set_option linter.unusedSimpArgs false
set_option maxRecDepth 4000
set_option maxHeartbeats 4000000
namespace Go.Av.G
open Go Go.Av Go.Proofs
theorem gdO_some {α : Type} (g : Bool) (a d : α) : gdO g (some a) d = some (bif g then a else d) := by cases g <;> rfl
theorem gdO_and (g a : Bool) : gdO g (some a) (default : Bool) = some (g && a) := by cases g <;> rfl
def okC (x : T_api_Customer) : Bool := decide (1 ≤ x.f_ID ∧ x.f_ID ≤ 999 ∧ 1 ≤ x.f_Name.length ∧ x.f_Name.length ≤ 32 ∧ 0 ≤ x.f_Kind ∧ x.f_Kind ≤ 3) && !(x.f_Name.any fun b => decide (b.toNat < 32) || decide (126 < b.toNat))
theorem contains_eq (s : List UInt8) : strings_ContainsFunc chart_isCustomer_1 s = some (s.any fun b => decide (b.toNat < 32) || decide (126 < b.toNat)) := by
 rw [strings_ContainsFunc_eq (fun x => decide (x < 32) || decide (126 < x)) (by
  intro x
  simp only [chart_isCustomer_1, Option.bind_some, Option.some.injEq]
  rw [Bool.eq_iff_iff]
  simp
  omega)]
 rw [runes_bytes (p := fun x => decide (x < 32) || decide (126 < x)) (by intro x hx; simp; omega)]
theorem isCustomer_eq (x : T_api_Customer) : chart_isCustomer x = some (okC x) := by
 simp only [chart_isCustomer, chart_in_int, contains_eq, gdO_some, Option.bind_some, Option.some.injEq, okC, cond_eq_ite]
 rw [Bool.eq_iff_iff]
 generalize (x.f_Name.any fun b => decide (b.toNat < 32) || decide (126 < b.toNat)) = B
 cases B <;> simp <;> omega
def okR (r : T_api_Record) : Bool := decide (1 ≤ r.f_Acc ∧ r.f_Acc ≤ 999 ∧ 0 ≤ r.f_Kind ∧ r.f_Kind ≤ 3 ∧ 0 ≤ r.f_Cur ∧ r.f_Cur ≤ 3 ∧ 0 ≤ r.f_Customer ∧ r.f_Customer ≤ 999 ∧ 0 ≤ r.f_Product ∧ r.f_Product ≤ 20 ∧ 0 ≤ r.f_Partition ∧ r.f_Partition ≤ 3 ∧
 (r.f_Kind < 2 ∨ r.f_Customer = 0 ∧ r.f_Product = 0) ∧ -50000 ≤ r.f_From ∧ r.f_From ≤ r.f_To ∧ r.f_To ≤ 50000)
theorem isRecord_eq (r : T_api_Record) : chart_isRecord r = some (okR r) := by
 simp only [chart_isRecord, chart_in_int, chart_in_Account, chart_in_Currency, date_Right, gdO_and, Option.bind_some, okR]
 split
 ·rename_i h
  simp only [Option.some.injEq]
  rw [Bool.eq_iff_iff]
  simp at h ⊢
  omega
 ·rename_i h
  split
  ·rename_i h2
   simp only [Option.some.injEq]
   rw [Bool.eq_iff_iff]
   simp at h h2 ⊢
   omega
  ·rename_i h2
   simp only [Option.some.injEq]
   rw [Bool.eq_iff_iff]
   simp at h h2 ⊢
   omega
theorem chart_rises_Customer_int_spec (l : List T_api_Customer) (hn : l.length < 4611686018427387904) : ∃ b, chart_rises_Customer_int l = some b ∧ (b = true ↔ Rise (·.f_ID) l) := by
 unfold chart_rises_Customer_int
 rw [loopI_any1 (n := l.length) (o := (Sum.inr false : Unit ⊕ Bool)) (e := Sum.inl ()) (q := descends (fun x : T_api_Customer => x.f_ID) l) hn]
 ·have h := any_rise (key := fun x : T_api_Customer => x.f_ID) (l := l)
  generalize hB : (List.range' 1 (l.length - 1)).any (descends (fun x : T_api_Customer => x.f_ID) l) = B at h ⊢
  cases B with
  | true => exact ⟨false, rfl, by simpa using h⟩
  | false => exact ⟨true, rfl, by simpa using h⟩
 ·intro i h0 h
  have e1 : IntKind.wrap .i64 ((i : Int) - 1) = ((i - 1 : Nat) : Int) := by rw [wrap64 (by omega) (by omega)]; omega
  simp only [decide_eq_true_eq, e1]
  rw [if_pos (by omega), rdO_at (by omega), rdO_at h, descends_at h0 h]
  simp only [chart_idOf, Option.bind_some, decide_eq_true_eq]
  split <;> rfl
 ·intro i h
  simp only [decide_eq_true_eq]
  rw [if_neg (by omega)]
theorem chart_rises_Record_Account_spec (l : List T_api_Record) (hn : l.length < 4611686018427387904) : ∃ b, chart_rises_Record_Account l = some b ∧ (b = true ↔ Rise (·.f_Acc) l) := by
 unfold chart_rises_Record_Account
 rw [loopI_any1 (n := l.length) (o := (Sum.inr false : Unit ⊕ Bool)) (e := Sum.inl ()) (q := descends (fun x : T_api_Record => x.f_Acc) l) hn]
 ·have h := any_rise (key := fun x : T_api_Record => x.f_Acc) (l := l)
  generalize hB : (List.range' 1 (l.length - 1)).any (descends (fun x : T_api_Record => x.f_Acc) l) = B at h ⊢
  cases B with
  | true => exact ⟨false, rfl, by simpa using h⟩
  | false => exact ⟨true, rfl, by simpa using h⟩
 ·intro i h0 h
  have e1 : IntKind.wrap .i64 ((i : Int) - 1) = ((i - 1 : Nat) : Int) := by rw [wrap64 (by omega) (by omega)]; omega
  simp only [decide_eq_true_eq, e1]
  rw [if_pos (by omega), rdO_at (by omega), rdO_at h, descends_at h0 h]
  simp only [chart_accOf, Option.bind_some, decide_eq_true_eq]
  split <;> rfl
 ·intro i h
  simp only [decide_eq_true_eq]
  rw [if_neg (by omega)]
theorem chart_place_Customer_int_1_eq (x : T_api_Customer) (n : Int) : chart_place_Customer_int_1 x n = some (if x.f_ID < n then -1 else if x.f_ID > n then 1 else 0) := by
 simp only [chart_place_Customer_int_1, chart_idOf, cmp_Compare_int, cmp_isNaN_int, Option.bind_some, bne_self_eq_false, Bool.false_eq_true, if_false, decide_eq_true_eq]
 split
 ·rfl
 ·split <;> rfl
theorem chart_place_Customer_int_spec (l : List T_api_Customer) (n : Int) (hn : l.length < 4611686018427387904) (hr : Rise (·.f_ID) l) :
  ∃ (k : Nat) (b : Bool), chart_place_Customer_int l n = some ((k : Int), b) ∧ k ≤ l.length ∧ (b = true → ∃ h : k < l.length, l[k].f_ID = n) ∧ (b = false → ∀ x ∈ l, x.f_ID ≠ n) ∧ (∀ i (hi : i < l.length), i < k → l[i].f_ID < n) ∧ (b = false → ∀ i (hi : i < l.length), k ≤ i → n < l[i].f_ID) := by
 have hbs : ∃ (k : Nat) (b : Bool), slices_BinarySearchFunc_Customer_Customer_int l n = some ((k : Int), b) ∧ k ≤ l.length ∧ (b = true → ∃ h : k < l.length, l[k].f_ID = n) ∧ (b = false → ∀ x ∈ l, x.f_ID ≠ n) ∧ (∀ i (hi : i < l.length), i < k → l[i].f_ID < n) ∧ (b = false → ∀ i (hi : i < l.length), k ≤ i → n < l[i].f_ID) := by
  unfold slices_BinarySearchFunc_Customer_Customer_int
  obtain ⟨k, hk, hl, h1, h2⟩ := bsearch (n := l.length) (lt := fun i => (l[i]?).any fun x => decide (x.f_ID < n)) (f := fun (qj3 : Int × Int) => match qj3 with
  | (i4, j5) => (
   if (decide (i4 < j5)) = true then
    (rdO l (IntKind.wrap .i64 (Int.fdiv (IntKind.wrap .u64 (IntKind.wrap .i64 (i4 + j5))) 2))).bind fun x7 =>
    (chart_place_Customer_int_1 x7 n).bind fun x8 =>
    if (decide (x8 < 0)) = true then
     some (.inl (IntKind.wrap .i64 ((IntKind.wrap .i64 (Int.fdiv (IntKind.wrap .u64 (IntKind.wrap .i64 (i4 + j5))) 2)) + 1), j5))
    else
     some (.inl (i4, IntKind.wrap .i64 (Int.fdiv (IntKind.wrap .u64 (IntKind.wrap .i64 (i4 + j5))) 2)))
   else
    some (.inr i4))) hn
   (by
    intro i j hij hj
    simp only [decide_eq_true_eq, half hij (show j < 4611686018427387904 by omega)]
    have hm : (i + j) / 2 < l.length := by omega
    rw [if_pos (by omega), rdO_at hm]
    simp only [Option.bind_some, chart_place_Customer_int_1_eq]
    rw [List.getElem?_eq_getElem hm]
    have e : IntKind.wrap .i64 ((((i + j) / 2 : Nat) : Int) + 1) = (((i + j) / 2 + 1 : Nat) : Int) := by rw [wrap64 (by omega) (by omega)]; rfl
    by_cases h : (l[(i + j) / 2]).f_ID < n
    ·simp [h]
     exact e
    ·simp [h]
     split <;> simp)
   (by
    intro i
    simp only [decide_eq_true_eq]
    rw [if_neg (by omega)])
  have hless : ∀ i (hi : i < l.length), i < k → l[i].f_ID < n := by
   intro i hi hik
   have h3 := h1 (by omega)
   rw [List.getElem?_eq_getElem (by omega)] at h3
   simp only [Option.any_some, decide_eq_true_eq] at h3
   by_cases he : i = k - 1
   ·subst he; exact h3
   ·have := hr.lt (j := k - 1) (i := i) (by omega) (by omega)
    try simp only at this
    omega
  rw [hl]
  simp only [Option.bind_some]
  by_cases hkl : k < l.length
  ·have h4 := h2 hkl
   rw [List.getElem?_eq_getElem hkl] at h4
   simp only [Option.any_some, decide_eq_false_iff_not] at h4
   have hdec : decide ((k : Int) < (l.length : Int)) = true := by simpa using hkl
   rw [hdec]
   simp only [gdO, rdO_at hkl, Option.bind_some, chart_place_Customer_int_1_eq, Bool.true_and]
   by_cases he : l[k].f_ID = n
   ·refine ⟨k, true, ?_, hk, fun _ => ⟨hkl, he⟩, (fun h => by cases h), hless, (fun h => by cases h)⟩
    simp [he]
   ·have hup : ∀ i (hi : i < l.length), k ≤ i → n < l[i].f_ID := fun i hi hik => by
     have : ¬ l[k].f_ID < n := h4
     have h5 : l[k].f_ID > n := by omega
     by_cases hik' : i = k
     ·subst hik'; omega
     ·have := hr.lt (j := i) (i := k) hi (by omega)
      try simp only at this
      omega
    refine ⟨k, false, ?_, hk, (fun h => by cases h), (fun _ x hx hxn => ?_), hless, fun _ => hup⟩
    ·have : ¬ l[k].f_ID < n := h4
     have h5 : l[k].f_ID > n := by omega
     simp [this, h5]
    ·obtain ⟨i, hi, rfl⟩ := List.getElem_of_mem hx
     by_cases hik : i < k
     ·have := hless i hi hik; omega
     ·by_cases hik' : i = k
      ·subst hik'; exact he hxn
      ·have := hr.lt (j := i) (i := k) hi (by omega)
       try simp only at this
       omega
  ·have hdec : decide ((k : Int) < (l.length : Int)) = false := by simpa using hkl
   rw [hdec]
   simp only [gdO, Option.bind_some, Bool.false_and]
   refine ⟨k, false, rfl, hk, (fun h => by cases h), (fun _ x hx hxn => ?_), hless, fun _ i hi hik => by omega⟩
   obtain ⟨i, hi, rfl⟩ := List.getElem_of_mem hx
   have := hless i hi (by omega)
   omega
 obtain ⟨k, b, h1, hk, h2, h3, h4, h5⟩ := hbs
 refine ⟨k, b, ?_, hk, h2, h3, h4, h5⟩
 unfold chart_place_Customer_int
 rw [h1]
 rfl
theorem chart_place_Record_Account_1_eq (x : T_api_Record) (n : Int) : chart_place_Record_Account_1 x n = some (if x.f_Acc < n then -1 else if x.f_Acc > n then 1 else 0) := by
 simp only [chart_place_Record_Account_1, chart_accOf, cmp_Compare_Account, cmp_isNaN_Account, Option.bind_some, bne_self_eq_false, Bool.false_eq_true, if_false, decide_eq_true_eq]
 split
 ·rfl
 ·split <;> rfl
theorem chart_place_Record_Account_spec (l : List T_api_Record) (n : Int) (hn : l.length < 4611686018427387904) (hr : Rise (·.f_Acc) l) :
  ∃ (k : Nat) (b : Bool), chart_place_Record_Account l n = some ((k : Int), b) ∧ k ≤ l.length ∧ (b = true → ∃ h : k < l.length, l[k].f_Acc = n) ∧ (b = false → ∀ x ∈ l, x.f_Acc ≠ n) ∧ (∀ i (hi : i < l.length), i < k → l[i].f_Acc < n) ∧ (b = false → ∀ i (hi : i < l.length), k ≤ i → n < l[i].f_Acc) := by
 have hbs : ∃ (k : Nat) (b : Bool), slices_BinarySearchFunc_Record_Record_Account l n = some ((k : Int), b) ∧ k ≤ l.length ∧ (b = true → ∃ h : k < l.length, l[k].f_Acc = n) ∧ (b = false → ∀ x ∈ l, x.f_Acc ≠ n) ∧ (∀ i (hi : i < l.length), i < k → l[i].f_Acc < n) ∧ (b = false → ∀ i (hi : i < l.length), k ≤ i → n < l[i].f_Acc) := by
  unfold slices_BinarySearchFunc_Record_Record_Account
  obtain ⟨k, hk, hl, h1, h2⟩ := bsearch (n := l.length) (lt := fun i => (l[i]?).any fun x => decide (x.f_Acc < n)) (f := fun (qj3 : Int × Int) => match qj3 with
  | (i4, j5) => (
   if (decide (i4 < j5)) = true then
    (rdO l (IntKind.wrap .i64 (Int.fdiv (IntKind.wrap .u64 (IntKind.wrap .i64 (i4 + j5))) 2))).bind fun x7 =>
    (chart_place_Record_Account_1 x7 n).bind fun x8 =>
    if (decide (x8 < 0)) = true then
     some (.inl (IntKind.wrap .i64 ((IntKind.wrap .i64 (Int.fdiv (IntKind.wrap .u64 (IntKind.wrap .i64 (i4 + j5))) 2)) + 1), j5))
    else
     some (.inl (i4, IntKind.wrap .i64 (Int.fdiv (IntKind.wrap .u64 (IntKind.wrap .i64 (i4 + j5))) 2)))
   else
    some (.inr i4))) hn
   (by
    intro i j hij hj
    simp only [decide_eq_true_eq, half hij (show j < 4611686018427387904 by omega)]
    have hm : (i + j) / 2 < l.length := by omega
    rw [if_pos (by omega), rdO_at hm]
    simp only [Option.bind_some, chart_place_Record_Account_1_eq]
    rw [List.getElem?_eq_getElem hm]
    have e : IntKind.wrap .i64 ((((i + j) / 2 : Nat) : Int) + 1) = (((i + j) / 2 + 1 : Nat) : Int) := by rw [wrap64 (by omega) (by omega)]; rfl
    by_cases h : (l[(i + j) / 2]).f_Acc < n
    ·simp [h]
     exact e
    ·simp [h]
     split <;> simp)
   (by
    intro i
    simp only [decide_eq_true_eq]
    rw [if_neg (by omega)])
  have hless : ∀ i (hi : i < l.length), i < k → l[i].f_Acc < n := by
   intro i hi hik
   have h3 := h1 (by omega)
   rw [List.getElem?_eq_getElem (by omega)] at h3
   simp only [Option.any_some, decide_eq_true_eq] at h3
   by_cases he : i = k - 1
   ·subst he; exact h3
   ·have := hr.lt (j := k - 1) (i := i) (by omega) (by omega)
    try simp only at this
    omega
  rw [hl]
  simp only [Option.bind_some]
  by_cases hkl : k < l.length
  ·have h4 := h2 hkl
   rw [List.getElem?_eq_getElem hkl] at h4
   simp only [Option.any_some, decide_eq_false_iff_not] at h4
   have hdec : decide ((k : Int) < (l.length : Int)) = true := by simpa using hkl
   rw [hdec]
   simp only [gdO, rdO_at hkl, Option.bind_some, chart_place_Record_Account_1_eq, Bool.true_and]
   by_cases he : l[k].f_Acc = n
   ·refine ⟨k, true, ?_, hk, fun _ => ⟨hkl, he⟩, (fun h => by cases h), hless, (fun h => by cases h)⟩
    simp [he]
   ·have hup : ∀ i (hi : i < l.length), k ≤ i → n < l[i].f_Acc := fun i hi hik => by
     have : ¬ l[k].f_Acc < n := h4
     have h5 : l[k].f_Acc > n := by omega
     by_cases hik' : i = k
     ·subst hik'; omega
     ·have := hr.lt (j := i) (i := k) hi (by omega)
      try simp only at this
      omega
    refine ⟨k, false, ?_, hk, (fun h => by cases h), (fun _ x hx hxn => ?_), hless, fun _ => hup⟩
    ·have : ¬ l[k].f_Acc < n := h4
     have h5 : l[k].f_Acc > n := by omega
     simp [this, h5]
    ·obtain ⟨i, hi, rfl⟩ := List.getElem_of_mem hx
     by_cases hik : i < k
     ·have := hless i hi hik; omega
     ·by_cases hik' : i = k
      ·subst hik'; exact he hxn
      ·have := hr.lt (j := i) (i := k) hi (by omega)
       try simp only at this
       omega
  ·have hdec : decide ((k : Int) < (l.length : Int)) = false := by simpa using hkl
   rw [hdec]
   simp only [gdO, Option.bind_some, Bool.false_and]
   refine ⟨k, false, rfl, hk, (fun h => by cases h), (fun _ x hx hxn => ?_), hless, fun _ i hi hik => by omega⟩
   obtain ⟨i, hi, rfl⟩ := List.getElem_of_mem hx
   have := hless i hi (by omega)
   omega
 obtain ⟨k, b, h1, hk, h2, h3, h4, h5⟩ := hbs
 refine ⟨k, b, ?_, hk, h2, h3, h4, h5⟩
 unfold chart_place_Record_Account
 rw [h1]
 rfl
theorem fst_neg {α : Type} (l : List α) (p : α → Bool) : decide ((match fstIdx l p with | some i => ((i : Nat) : Int) | none => -1) ≥ 0) = l.any p := by
 cases h : fstIdx l p with
 | some i =>
  obtain ⟨hi, hp, _⟩ := fstIdx_some h
  have : l.any p = true := List.any_eq_true.2 ⟨_, List.getElem_mem hi, hp⟩
  simp [this]
 | none =>
  have : l.any p = false := by simpa using fstIdx_none h
  simp [this]
theorem idxC_eq (l : List T_api_Customer) (hn : l.length < 4611686018427387904) : slices_ContainsFunc_Customer_Customer l = some (l.any fun x => !okC x) := by
 unfold slices_ContainsFunc_Customer_Customer slices_IndexFunc_Customer_Customer
 rw [loopL_idx (l := l) (fun x => !okC x) (o := fun i => (Sum.inr (i : Int) : Unit ⊕ Int)) (e := Sum.inl ()) hn]
 ·rw [← fst_neg]
  cases fstIdx l fun x => !okC x <;> rfl
 ·intro i h
  simp only [decide_eq_true_eq]
  rw [if_pos (by omega), rdO_at h]
  simp only [Option.bind_some, chart_Right_1, isCustomer_eq]
  split <;> rfl
 ·intro i h
  simp only [decide_eq_true_eq]
  rw [if_neg (by omega)]
def badR (c : T_api_Chart) (r : T_api_Record) : Bool := !okR r || (decide (0 < r.f_Customer) && !(c.f_Customers.any fun x => x.f_ID == r.f_Customer))
theorem place_any {l : List T_api_Customer} {n : Int} {k : Nat} {b : Bool} (h1 : b = true → ∃ h : k < l.length, l[k].f_ID = n) (h2 : b = false → ∀ x ∈ l, x.f_ID ≠ n) : (l.any fun x => x.f_ID == n) = b := by
 cases b with
 | true =>
  obtain ⟨h, he⟩ := h1 rfl
  exact List.any_eq_true.2 ⟨_, List.getElem_mem h, by simpa using he⟩
 | false => simpa using h2 rfl
theorem right2_eq (c : T_api_Chart) (r : T_api_Record) (hn : c.f_Customers.length < 4611686018427387904) (hr : Rise (·.f_ID) c.f_Customers) : chart_Right_2 r c = some (badR c r) := by
 obtain ⟨k, b, h1, _, h2, h3, _, _⟩ := chart_place_Customer_int_spec c.f_Customers r.f_Customer hn hr
 unfold chart_Right_2 badR
 rw [h1, place_any h2 h3]
 simp only [Option.bind_some, isRecord_eq, gt_iff_lt]
theorem idxR_eq (c : T_api_Chart) (hc : c.f_Customers.length < 4611686018427387904) (hn : c.f_Records.length < 4611686018427387904) (hr : Rise (·.f_ID) c.f_Customers) : slices_ContainsFunc_Record_Record c.f_Records c = some (c.f_Records.any (badR c)) := by
 unfold slices_ContainsFunc_Record_Record slices_IndexFunc_Record_Record
 rw [loopL_idx (l := c.f_Records) (badR c) (o := fun i => (Sum.inr (i : Int) : Unit ⊕ Int)) (e := Sum.inl ()) hn]
 ·rw [← fst_neg]
  cases fstIdx c.f_Records (badR c) <;> rfl
 ·intro i h
  simp only [decide_eq_true_eq]
  rw [if_pos (by omega), rdO_at h]
  simp only [Option.bind_some, right2_eq c _ hc hr]
  split <;> rfl
 ·intro i h
  simp only [decide_eq_true_eq]
  rw [if_neg (by omega)]
def RightP (c : T_api_Chart) : Prop := c.f_Customers.length ≤ 100 ∧ c.f_Records.length ≤ 200 ∧ Rise (·.f_ID) c.f_Customers ∧ Rise (·.f_Acc) c.f_Records ∧ (∀ x ∈ c.f_Customers, okC x = true) ∧ ∀ r ∈ c.f_Records, badR c r = false
theorem Right_spec (c : T_api_Chart) (hc : c.f_Customers.length < 4611686018427387904) (hn : c.f_Records.length < 4611686018427387904) : ∃ b, chart_Right c = some b ∧ (b = true ↔ RightP c) := by
 unfold chart_Right
 obtain ⟨b1, e1, h1⟩ := chart_rises_Customer_int_spec c.f_Customers hc
 obtain ⟨b2, e2, h2⟩ := chart_rises_Record_Account_spec c.f_Records hn
 simp only [e1, e2, gdO_and, Option.bind_some, idxC_eq _ hc]
 by_cases hA : c.f_Customers.length ≤ 100 ∧ c.f_Records.length ≤ 200 ∧ b1 = true ∧ b2 = true
 ·obtain ⟨a1, a2, rfl, rfl⟩ := hA
  have d1 : decide ((c.f_Customers.length : Int) > 100) = false := by simp; omega
  have d2 : decide ((c.f_Records.length : Int) > 200) = false := by simp; omega
  have hr1 := h1.1 rfl
  have hr2 := h2.1 rfl
  simp only [d1, d2, Bool.or_false, Bool.not_false, Bool.true_and, Bool.not_true, Bool.false_eq_true, if_false, idxR_eq c hc hn hr1, Option.bind_some]
  cases hB : c.f_Customers.any fun x => !okC x with
  | true =>
   refine ⟨false, rfl, by simp, fun h => ?_⟩
   obtain ⟨x, hx, hb⟩ := List.any_eq_true.1 hB
   have := h.2.2.2.2.1 x hx
   simp [this] at hb
  | false =>
   simp only [Bool.false_eq_true, if_false]
   refine ⟨_, rfl, ?_⟩
   have hC : ∀ x ∈ c.f_Customers, okC x = true := by simpa using hB
   unfold RightP
   simp only [a1, a2, hr1, hr2, true_and]
   simpa using fun _ => hC
 ·refine ⟨false, ?_, by simp, fun h => absurd ⟨h.1, h.2.1, h1.2 h.2.2.1, h2.2 h.2.2.2.1⟩ hA⟩
  rw [if_pos]
  by_cases a1 : c.f_Customers.length ≤ 100
  ·by_cases a2 : c.f_Records.length ≤ 200
   ·cases b1 <;> cases b2 <;> simp_all
   ·have : (c.f_Records.length : Int) > 200 := by omega
    simp [this]
  ·have : (c.f_Customers.length : Int) > 100 := by omega
   simp [this]
def Fits (c : T_api_Chart) : Prop := c.f_Customers.length < 1000 ∧ c.f_Records.length < 1000 ∧ ∀ x ∈ c.f_Customers, x.f_Name.length ≤ 9223372036854775807
theorem Right_at {c : T_api_Chart} (hf : Fits c) (h : RightP c) : chart_Right c = some true := by
 obtain ⟨b, e, hb⟩ := Right_spec c (by have := hf.1; omega) (by have := hf.2.1; omega)
 rw [e, hb.2 h]
theorem placeR_at {l : List T_api_Record} {a : Int} (hn : l.length < 1000) (hr : Rise (·.f_Acc) l) {i : Nat} (h : i < l.length) (he : l[i].f_Acc = a) : chart_place_Record_Account l a = some ((i : Int), true) := by
 obtain ⟨k, b, e, _, h1, h2, _, _⟩ := chart_place_Record_Account_spec l a (by omega) hr
 cases b with
 | false => exact absurd he (h2 rfl _ (List.getElem_mem h))
 | true =>
  obtain ⟨hk, he'⟩ := h1 rfl
  rw [e, hr.inj hk h (by omega)]
theorem placeR_none {l : List T_api_Record} {a : Int} (hn : l.length < 1000) (hr : Rise (·.f_Acc) l) (h : ∀ x ∈ l, x.f_Acc ≠ a) : ∃ k : Nat, k ≤ l.length ∧ chart_place_Record_Account l a = some ((k : Int), false) := by
 obtain ⟨k, b, e, hk, h1, h2, hlo, hup⟩ := chart_place_Record_Account_spec l a (by omega) hr
 cases b with
 | false => exact ⟨k, hk, e⟩
 | true =>
  obtain ⟨hk, he'⟩ := h1 rfl
  exact absurd he' (h _ (List.getElem_mem hk))
theorem Find_none {c : T_api_Chart} (hf : Fits c) (h : RightP c) {a : Int} (hn : ∀ x ∈ c.f_Records, x.f_Acc ≠ a) : chart_Find c a = some (⟨0, 0, 0, 0, 0, 0, 0, 0⟩, 8) := by
 unfold chart_Find
 obtain ⟨k, _, e⟩ := placeR_none hf.2.1 h.2.2.2.1 hn
 rw [Right_at hf h, e]
 rfl
theorem Find_at {c : T_api_Chart} (hf : Fits c) (h : RightP c) {a : Int} {i : Nat} (hi : i < c.f_Records.length) (he : c.f_Records[i].f_Acc = a) : chart_Find c a = some (c.f_Records[i], 0) := by
 unfold chart_Find
 rw [Right_at hf h, placeR_at hf.2.1 h.2.2.2.1 hi he]
 simp only [Option.bind_some, rdO_at hi]
 rfl
theorem slO_take {α : Type} {l : List α} {h : Int} (h0 : 0 ≤ h) (h1 : h ≤ l.length) : slO l 0 h = some (l.take h.toNat) := by
 unfold slO
 rw [if_pos ⟨by omega, h0, h1⟩]
 rfl
theorem slO_cap {α : Type} (l : List α) (m : Nat) : slO l 0 (if (m : Int) < (l.length : Int) then (m : Int) else (l.length : Int)) = some (l.take m) := by
 split
 ·rw [slO_take (by omega) (by omega)]; simp
 ·rw [slO_take (by omega) (by omega)]
  simp only [Int.toNat_natCast, Option.some.injEq]
  rw [List.take_of_length_le (Nat.le_refl _), List.take_of_length_le (by omega)]
theorem Is_at {c : T_api_Chart} (hf : Fits c) (h : RightP c) {a d : Int} {i : Nat} (hi : i < c.f_Records.length) (he : c.f_Records[i].f_Acc = a) : chart_Is c a d = some (if (decide (-50000 ≤ d) && decide (d ≤ 50000)) = true then (decide (d ≥ c.f_Records[i].f_From) && decide (d ≤ c.f_Records[i].f_To), 0) else (false, 11)) := by
 unfold chart_Is
 rw [Find_at hf h hi he]
 simp only [Option.bind_some, date_Right, chart_in_Date, ge_iff_le]
 cases (decide (-50000 ≤ d) && decide (d ≤ 50000)) <;> rfl
theorem any_idx {n : Nat} {q : Nat → Bool} : (List.range' 0 n).any q = false ↔ ∀ i, i < n → q i = false := by
 rw [List.any_eq_false]
 constructor
 ·intro h i hi; have := h i (by simpa using hi); simpa using this
 ·intro h i hi; have := h i (by simpa using hi); simpa using this
theorem descends_rise {α : Type} {key : α → Int} {l : List α} : (∀ i, i < l.length → (decide (0 < i) && descends key l i) = false) ↔ Rise key l := by
 constructor
 ·intro h i hi
  have := h (i + 1) hi
  rw [descends_at (by omega) hi] at this
  simp at this
  omega
 ·intro h i hi
  cases i with
  | zero => rfl
  | succ i =>
   rw [descends_at (by omega) hi]
   have := h i hi
   simp
   omega
theorem wN {x : Int} {n : Nat} (h : x = n) (hn : n < 4611686018427387904) : IntKind.wrap .i64 x = (n : Int) := by
 subst h
 exact wrap64 (by omega) (by omega)
theorem rd_mid {α : Type} {A B : List α} {x : α} {n : Nat} (h : n = A.length) : rdO (A ++ x :: B) (n : Int) = some x := by
 subst h
 rw [rdO_at (by simp)]
 simp
def okH (h : T_api_Hold) : Bool := decide (1 ≤ h.f_ID ∧ h.f_ID ≤ 1000000 ∧ 1 ≤ h.f_Acc ∧ h.f_Acc ≤ 999 ∧ 0 ≤ h.f_Rank ∧ h.f_Rank ≤ 9 ∧ 0 ≤ h.f_Amount.f_Cur ∧ h.f_Amount.f_Cur < 4 ∧ 0 < h.f_Amount.f_Minor ∧ h.f_Amount.f_Minor ≤ 1000000000000000 ∧
 0 ≤ h.f_Taken ∧ h.f_Taken ≤ h.f_Amount.f_Minor ∧ -50000 ≤ h.f_Made ∧ h.f_Made ≤ h.f_Until ∧ h.f_Until ≤ 50000)
def okM (m : T_api_Money) : Bool := decide (0 ≤ m.f_Cur ∧ m.f_Cur < 4 ∧ -1000000000000000 ≤ m.f_Minor ∧ m.f_Minor ≤ 1000000000000000)
theorem moneyRight_eq (m : T_api_Money) : money_Right m = some (okM m) := by
 simp only [money_Right, money_is, Option.bind_some, Option.some.injEq, okM]
 rw [Bool.eq_iff_iff]
 simp
 omega
theorem right_eq (h : T_api_Hold) : hold_right h = some (okH h) := by
 simp only [hold_right, moneyRight_eq, date_Right, gdO_and, Option.bind_some, Option.some.injEq, okH, okM]
 rw [Bool.eq_iff_iff]
 simp
 omega
def liveH (h : T_api_Hold) (now : Int) : Bool := okH h && !h.f_Done && decide (h.f_Made ≤ now ∧ now ≤ h.f_Until)
def restH (h : T_api_Hold) (now : Int) : Int := if liveH h now = true then h.f_Amount.f_Minor - h.f_Taken else 0
theorem live_eq (h : T_api_Hold) (now : Int) : hold_Live h now = some (liveH h now) := by
 simp only [hold_Live, right_eq, Option.bind_some, Option.some.injEq, liveH]
 rw [Bool.eq_iff_iff]
 simp [and_assoc]
theorem okH_spec {h : T_api_Hold} (hk : okH h = true) : 1 ≤ h.f_ID ∧ h.f_ID ≤ 1000000 ∧ 1 ≤ h.f_Acc ∧ h.f_Acc ≤ 999 ∧ 0 ≤ h.f_Rank ∧ h.f_Rank ≤ 9 ∧ 0 ≤ h.f_Amount.f_Cur ∧ h.f_Amount.f_Cur < 4 ∧ 0 < h.f_Amount.f_Minor ∧ h.f_Amount.f_Minor ≤ 1000000000000000 ∧
 0 ≤ h.f_Taken ∧ h.f_Taken ≤ h.f_Amount.f_Minor ∧ -50000 ≤ h.f_Made ∧ h.f_Made ≤ h.f_Until ∧ h.f_Until ≤ 50000 := of_decide_eq_true hk
theorem live_ok {h : T_api_Hold} {now : Int} (hl : liveH h now = true) : okH h = true := by
 unfold liveH at hl
 simp only [Bool.and_eq_true] at hl
 exact hl.1.1
theorem restH_range (h : T_api_Hold) (now : Int) : 0 ≤ restH h now ∧ restH h now ≤ 1000000000000000 := by
 unfold restH
 split
 ·rename_i hl
  have := okH_spec (live_ok hl)
  omega
 ·omega
theorem rest_eq (h : T_api_Hold) (now : Int) : hold_Rest h now = some (restH h now) := by
 simp only [hold_Rest, live_eq, Option.bind_some]
 unfold restH
 cases hl : liveH h now with
 | false => rfl
 | true =>
  have := okH_spec (live_ok hl)
  simp only [Bool.not_true, Bool.false_eq_true, if_false, if_true]
  rw [wrap64 (by omega) (by omega)]
def badI (l : List T_api_Hold) : Bool := (List.range' 1 (l.length - 1)).any (descends (fun x : T_api_Hold => x.f_ID) l)
def chkH (l : List T_api_Hold) : Int := if (l.any fun x => !okH x) = true then 1 else if badI l = true then 20 else if 200 < l.length then 6 else 0
structure GoodL (l : List T_api_Hold) : Prop where
 ok : ∀ x ∈ l, okH x = true
 rise : Rise (fun x : T_api_Hold => x.f_ID) l
 few : l.length ≤ 200
theorem chkH_good {l : List T_api_Hold} : chkH l = 0 ↔ GoodL l := by
 have h := any_rise (key := fun x : T_api_Hold => x.f_ID) (l := l)
 unfold chkH badI
 constructor
 ·intro hc
  split at hc
  ·cases hc
  ·rename_i h1
   split at hc
   ·cases hc
   ·rename_i h2
    split at hc
    ·cases hc
    ·rename_i h3
     refine ⟨by simpa using h1, Classical.byContradiction fun hr => h2 (h.2 hr), by omega⟩
 ·intro hg
  rw [if_neg (by simpa using hg.ok), if_neg (fun hb => h.1 hb hg.rise), if_neg (by have := hg.few; omega)]
theorem hcont_eq (l : List T_api_Hold) (hn : l.length < 4611686018427387904) : slices_ContainsFunc_Hold_Hold l = some (l.any fun x => !okH x) := by
 unfold slices_ContainsFunc_Hold_Hold slices_IndexFunc_Hold_Hold
 rw [loopL_idx (l := l) (fun x => !okH x) (o := fun i => (Sum.inr (i : Int) : Unit ⊕ Int)) (e := Sum.inl ()) hn]
 ·rw [← fst_neg]
  cases fstIdx l fun x => !okH x <;> rfl
 ·intro i h
  simp only [decide_eq_true_eq]
  rw [if_pos (by omega), rdO_at h]
  simp only [Option.bind_some, hold_Check_1, right_eq]
  split <;> rfl
 ·intro i h
  simp only [decide_eq_true_eq]
  rw [if_neg (by omega)]
theorem check_eq (l : List T_api_Hold) (hn : l.length < 4611686018427387904) : hold_Check l = some (chkH l) := by
 unfold hold_Check
 rw [hcont_eq l hn]
 simp only [Option.bind_some]
 unfold chkH
 split
 ·rfl
 ·rw [loopI_any1 (n := l.length) (o := (Sum.inr 20 : Unit ⊕ Int)) (e := Sum.inl ()) (q := descends (fun x : T_api_Hold => x.f_ID) l) hn]
  ·unfold badI
   cases (List.range' 1 (l.length - 1)).any (descends (fun x : T_api_Hold => x.f_ID) l) with
   | true => rfl
   | false =>
    simp only [Bool.false_eq_true, if_false, Option.bind_some, decide_eq_true_eq]
    by_cases h : 200 < l.length
    ·rw [if_pos h, if_pos (by omega)]
    ·rw [if_neg h, if_neg (by omega)]
  ·intro i h0 h
   have e1 : IntKind.wrap .i64 ((i : Int) - 1) = ((i - 1 : Nat) : Int) := by rw [wrap64 (by omega) (by omega)]; omega
   simp only [decide_eq_true_eq, e1]
   rw [if_pos (by omega), rdO_at (by omega), rdO_at h, descends_at h0 h]
   simp only [Option.bind_some, decide_eq_true_eq]
   split <;> rfl
  ·intro i h
   simp only [decide_eq_true_eq]
   rw [if_neg (by omega)]
theorem apO_eq {α : Type} {n : Nat} {xs ys : List α} (h : (xs.length + ys.length) * n ≤ 140737488355328) : apO n xs ys = some (xs ++ ys) := by
 unfold apO
 rw [if_pos h]
def selB (acc cur now : Int) (h : T_api_Hold) : Bool := h.f_Acc == acc && (h.f_Amount.f_Cur == cur && liveH h now)
def wH (acc cur now rank : Int) (h : T_api_Hold) : Int := if h.f_Acc = acc ∧ h.f_Amount.f_Cur = cur ∧ rank ≤ h.f_Rank then restH h now else 0
def sumL (l : List T_api_Hold) (acc cur now rank : Int) : Int := (l.map (wH acc cur now rank)).sum
theorem sel_eq (acc cur now : Int) (h : T_api_Hold) : selO acc cur now h = some (selB acc cur now h) := by
 unfold selO selB
 rw [live_eq]
 cases h.f_Acc == acc with
 | false => rfl
 | true =>
  cases h.f_Amount.f_Cur == cur with
  | false => rfl
  | true => rfl
theorem it_eq (acc cur now : Int) : ∀ l : List T_api_Hold, itO acc cur now l = some (l.filter (selB acc cur now))
 | [] => rfl
 | h :: t => by
  simp only [itO, sel_eq, it_eq acc cur now t, Option.bind_some, Option.map_some, List.filter_cons, Option.some.injEq]
  cases selB acc cur now h <;> rfl
theorem those_eq {l : List T_api_Hold} (hn : l.length ≤ 1000) (acc cur now : Int) : hold_those l acc cur now = some (l.filter (selB acc cur now)) := by
 unfold hold_those
 rw [if_pos (by omega), it_eq]
theorem wH_range (acc cur now rank : Int) (h : T_api_Hold) : 0 ≤ wH acc cur now rank h ∧ wH acc cur now rank h ≤ 1000000000000000 := by
 unfold wH
 split
 ·exact restH_range h now
 ·omega
theorem sumL_range (acc cur now rank : Int) : ∀ l : List T_api_Hold, 0 ≤ sumL l acc cur now rank ∧ sumL l acc cur now rank ≤ l.length * 1000000000000000
 | [] => by simp [sumL]
 | h :: t => by
  have h1 := wH_range acc cur now rank h
  have h2 := sumL_range acc cur now rank t
  unfold sumL at h2 ⊢
  simp only [List.map_cons, List.sum_cons, List.length_cons]
  omega
theorem sum_fold (acc cur now rank : Int) : ∀ (l : List T_api_Hold) (n : Int), 0 ≤ n → n + l.length * 1000000000000000 ≤ 4000000000000000000 → foldO (sumStep now rank) n (l.filter (selB acc cur now)) = some (n + sumL l acc cur now rank)
 | [], n, _, _ => by simp [foldO, sumL]
 | h :: t, n, h0, h1 => by
  simp only [List.length_cons] at h1
  have hr := restH_range h now
  have e : sumL (h :: t) acc cur now rank = wH acc cur now rank h + sumL t acc cur now rank := by simp [sumL]
  rw [e, List.filter_cons]
  cases hs : selB acc cur now h with
  | false =>
   have hw : wH acc cur now rank h = 0 := by
    unfold selB at hs
    unfold wH restH
    split
    ·rename_i hc
     simp only [hc.1, hc.2.1, beq_self_eq_true, Bool.true_and] at hs
     rw [hs]; simp
    ·rfl
   rw [if_neg (by simp), sum_fold acc cur now rank t n h0 (by omega), hw]
   simp
  | true =>
   unfold selB at hs
   simp only [Bool.and_eq_true, beq_iff_eq] at hs
   rw [if_pos rfl]
   simp only [foldO, sumStep, rest_eq, Option.bind_some, ge_iff_le]
   by_cases hk : rank ≤ h.f_Rank
   ·have hw : wH acc cur now rank h = restH h now := by unfold wH; rw [if_pos ⟨hs.1, hs.2.1, hk⟩]
    simp only [hk, decide_true, if_true, Option.bind_some]
    rw [wrap64 (by omega) (by omega), sum_fold acc cur now rank t _ (by omega) (by omega), hw, Int.add_assoc]
   ·have hw : wH acc cur now rank h = 0 := by unfold wH; rw [if_neg (fun hc => hk hc.2.2)]
    simp only [hk, decide_false, Bool.false_eq_true, if_false, Option.bind_some]
    rw [sum_fold acc cur now rank t n h0 (by omega), hw]
    simp
theorem sum_eq {l : List T_api_Hold} (hg : GoodL l) (acc cur now rank : Int) : hold_Sum l acc cur now rank = some (sumL l acc cur now rank, 0) := by
 have hf := hg.few
 unfold hold_Sum
 rw [check_eq l (by omega), chkH_good.2 hg]
 simp only [Option.bind_some, bne_self_eq_false, Bool.false_eq_true, if_false, those_eq (show l.length ≤ 1000 by omega), sum_fold acc cur now rank l 0 (by omega) (by omega), Int.zero_add]
theorem loopW {O : Type} {f : Int → Option (Int ⊕ O)} {n : Nat} {q : Nat → Bool} {o : Nat → O} {e : O} (hn : n ≤ 9223372036854775807) (hin : ∀ i : Nat, i < n → f i = some (if q i = true then .inr (o i) else .inl (IntKind.wrap .i64 ((i : Int) + 1))))
  (hout : ∀ i : Nat, n ≤ i → f i = some (.inr e)) : ∀ (k : Nat), k ≤ n → loopO f (k : Int) = some (match (List.range' k (n - k)).find? q with | some i => o i | none => e) := by
 intro k hk
 induction hm : n - k generalizing k with
 | zero =>
  rw [loopO_out (hout k (by omega))]
  rfl
 | succ m ih =>
  have h := hin k (by omega)
  cases hq : q k with
  | true =>
   rw [hq] at h
   rw [loopO_out (o := o k) (by rw [h]; rfl), List.range'_succ, List.find?_cons, hq]
  | false =>
   rw [hq] at h
   have e1 : IntKind.wrap .i64 ((k : Int) + 1) = ((k + 1 : Nat) : Int) := by rw [wrap64 (by omega) (by omega)]; rfl
   rw [loopO_on (s' := ((k + 1 : Nat) : Int)) (by rw [h, ← e1]; rfl), ih (k + 1) (by omega) (by omega), List.range'_succ, List.find?_cons, hq]
theorem loopW_any {α O : Type} {f : Int → Option (Int ⊕ O)} {l : List α} (p : α → Bool) {o e : O} (hn : l.length ≤ 9223372036854775807) (hin : ∀ (i : Nat) (h : i < l.length), f i = some (if p l[i] = true then .inr o else .inl (IntKind.wrap .i64 ((i : Int) + 1))))
  (hout : ∀ i : Nat, l.length ≤ i → f i = some (.inr e)) : loopO f 0 = some (if l.any p = true then o else e) := by
 have h := loopW (q := fun i => (l[i]?).any p) (o := fun _ => o) hn (fun i hi => by rw [hin i hi, List.getElem?_eq_getElem hi]; rfl) hout 0 (by omega)
 rw [← any_range, ← find_any]
 exact h
end Go.Av.G
end
section
set_option linter.unusedVariables false
set_option linter.unusedSimpArgs false
set_option maxRecDepth 4000
set_option maxHeartbeats 4000000
namespace Go.Av.G
open Go Go.Av Go.Proofs
theorem bind_at {α β : Type} {a : Option α} {x : α} {f : α → Option β} {o : Option β} (h : a = some x) (h2 : f x = o) : a.bind f = o := by subst h; exact h2
def absI (n : Int) : Int := if n < 0 then -n else n
def selL (acc cur : Int) (x : T_api_Leg) : Bool := x.f_Acc == acc && x.f_Amount.f_Cur == cur
def flatP (acc cur : Int) (p : T_api_Posting) (l : List T_api_Leg) : List T_balance_leg := (l.filter (selL acc cur)).map fun x => ⟨p.f_Known, p.f_Value, x.f_Amount.f_Minor⟩
def flatL (acc cur : Int) : List T_api_Posting → List T_balance_leg
 | [] => []
 | p :: t => flatP acc cur p p.f_Legs ++ flatL acc cur t
def greatF : Int → List T_balance_leg → Option Int
 | g, [] => some g
 | g, x :: t => if 1000000000000000000 - g < absI x.f_minor then none else greatF (g + absI x.f_minor) t
def sumV (e : Int) : List T_balance_leg → Int
 | [] => 0
 | x :: t => (if x.f_value ≤ e then x.f_minor else 0) + sumV e t
theorem absI_pos (n : Int) : 0 ≤ absI n ∧ n ≤ absI n ∧ -absI n ≤ n := by unfold absI; split <;> omega
theorem greatF_append : ∀ (a b : List T_balance_leg) (g : Int), greatF g (a ++ b) = (greatF g a).bind fun g' => greatF g' b
 | [], b, g => rfl
 | x :: a, b, g => by
  show (if 1000000000000000000 - g < absI x.f_minor then none else greatF (g + absI x.f_minor) (a ++ b)) = ((if 1000000000000000000 - g < absI x.f_minor then none else greatF (g + absI x.f_minor) a).bind fun g' => greatF g' b)
  split
  ·rfl
  ·exact greatF_append a b _
theorem greatF_range : ∀ (a : List T_balance_leg) {g G : Int}, greatF g a = some G → 0 ≤ g → g ≤ 1000000000000000000 → g ≤ G ∧ G ≤ 1000000000000000000
 | [], g, G, h, h0, h1 => by cases h; omega
 | x :: a, g, G, h, h0, h1 => by
  have ha := absI_pos x.f_minor
  have h : (if 1000000000000000000 - g < absI x.f_minor then none else greatF (g + absI x.f_minor) a) = some G := h
  split at h
  ·cases h
  ·have := greatF_range a h (by omega) (by omega)
   omega
theorem sumV_range (e : Int) : ∀ (a : List T_balance_leg) {g G : Int}, greatF g a = some G → -(G - g) ≤ sumV e a ∧ sumV e a ≤ G - g
 | [], g, G, h => by cases h; simp [sumV]
 | x :: a, g, G, h => by
  have ha := absI_pos x.f_minor
  have h : (if 1000000000000000000 - g < absI x.f_minor then none else greatF (g + absI x.f_minor) a) = some G := h
  split at h
  ·cases h
  ·have := sumV_range e a h
   show -(G - g) ≤ (if x.f_value ≤ e then x.f_minor else 0) + sumV e a ∧ (if x.f_value ≤ e then x.f_minor else 0) + sumV e a ≤ G - g
   split <;> omega
def legI (x : T_api_Leg) : Prop := -9223372036854775808 ≤ x.f_Amount.f_Minor ∧ x.f_Amount.f_Minor < 9223372036854775808
theorem great_add_eq {n g : Int} (h1 : -9223372036854775808 ≤ n) (h2 : n < 9223372036854775808) (h3 : 0 ≤ g) (h4 : g ≤ 1000000000000000000) : balance_great_add n ⟨g⟩ = some (if 1000000000000000000 - g < absI n then (true, g) else (false, g + absI n)) := by
 have e1 : IntKind.wrap .i64 (1000000000000000000 - g) = 1000000000000000000 - g := wrap64 (by omega) (by omega)
 unfold balance_great_add absI
 simp only [decide_eq_true_eq, e1]
 by_cases hn : n < 0
 ·simp only [if_pos hn, Option.bind_some]
  by_cases hm : n = -9223372036854775808
  ·subst hm
   have e2 : IntKind.wrap .i64 (0 - (-9223372036854775808)) = -9223372036854775808 := by rfl
   simp only [e2]
   rw [if_pos (by simp), if_pos (by omega)]
  ·have e2 : IntKind.wrap .i64 (0 - n) = -n := by rw [wrap64 (by omega) (by omega)]; omega
   simp only [e2]
   by_cases hg : 1000000000000000000 - g < -n
   ·rw [if_pos (by simp; omega), if_pos hg]
   ·have e3 : IntKind.wrap .i64 (g + -n) = g + -n := wrap64 (by omega) (by omega)
    rw [if_neg (by simp; omega), if_neg hg, e3]
 ·simp only [if_neg hn, Option.bind_some]
  by_cases hg : 1000000000000000000 - g < n
  ·rw [if_pos (by simp; omega), if_pos hg]
  ·have e3 : IntKind.wrap .i64 (g + n) = g + n := wrap64 (by omega) (by omega)
   rw [if_neg (by simp; omega), if_neg hg, e3]
theorem legs_in {p : T_api_Posting} {acc cur : Int} (hp : ∀ x ∈ p.f_Legs, legI x) (hl : p.f_Legs.length ≤ 1000) : ∀ (t pre : List T_api_Leg) (g : Int) (row : List T_balance_leg), p.f_Legs = pre ++ t → 0 ≤ g → g ≤ 1000000000000000000 → row.length + t.length ≤ 1000000 →
  loopO (fun (qj9 : Int × Int × (List T_balance_leg)) => match qj9 with
     | (x10, g11, row12) => (
      if (decide (x10 < (p.f_Legs.length : Int))) = true then
       (((rdO p.f_Legs x10).bind fun x14 =>
       (some (x14.f_Acc != acc)).bind fun c15 =>
       if (c15 || (x14.f_Amount.f_Cur != cur)) = true then
        some (.inl (g11, row12))
       else
        (balance_great_add x14.f_Amount.f_Minor (⟨g11⟩ : T_balance_great)).bind fun x16 =>
        if x16.1 = true then
         some (.inr (.inr (.inr (.inr (.inr (([] : List T_balance_leg), 9))))))
        else
         (apO 16 row12 [(⟨p.f_Known, p.f_Value, x14.f_Amount.f_Minor⟩ : T_balance_leg)]).bind fun x17 =>
         some (.inl (x16.2, x17))) : Option ((Int × (List T_balance_leg)) ⊕ ((Int × Int × (List T_balance_leg)) ⊕ ((Int × (List T_balance_leg)) ⊕ ((Int × Int × (List T_balance_leg)) ⊕ ((List T_balance_leg) ⊕ ((List T_balance_leg) × Int))))))).bind fun j13 => match j13 with
       | .inr o => some o
       | .inl (g18, row19) =>
       some (.inl (IntKind.wrap .i64 (x10 + 1), g18, row19))
      else
       some (.inr (.inl (g11, row12))) : Option ((Int × Int × (List T_balance_leg)) ⊕ ((Int × (List T_balance_leg)) ⊕ ((Int × Int × (List T_balance_leg)) ⊕ ((List T_balance_leg) ⊕ ((List T_balance_leg) × Int))))))) ((pre.length : Int), g, row)
   = some (match greatF g (flatP acc cur p t) with | none => .inr (.inr (.inr ([], 9))) | some g' => .inl (g', row ++ flatP acc cur p t)) := by
 intro t
 induction t with
 | nil =>
  intro pre g row he _ _ _
  rw [loopO_out (o := .inl (g, row))]
  ·simp [flatP, greatF]
  ·have : decide ((pre.length : Int) < (p.f_Legs.length : Int)) = false := by rw [he]; simp
   simp only [this, Bool.false_eq_true, if_false]
 | cons x t ih =>
  intro pre g row he h0 h1 hrow
  have hlen : p.f_Legs.length = pre.length + (t.length + 1) := by rw [he]; simp
  simp only [List.length_cons] at hrow
  have hd : decide ((pre.length : Int) < (p.f_Legs.length : Int)) = true := by simp; omega
  have hx : rdO p.f_Legs (pre.length : Int) = some x := by rw [he]; exact rd_mid rfl
  have e1 : IntKind.wrap .i64 ((pre.length : Int) + 1) = (((pre ++ [x]).length : Nat) : Int) := wN (by simp) (by simp; omega)
  have hi : legI x := hp x (by rw [he]; simp)
  have ha := absI_pos x.f_Amount.f_Minor
  by_cases hs : selL acc cur x = true
  ·have hf : flatP acc cur p (x :: t) = ⟨p.f_Known, p.f_Value, x.f_Amount.f_Minor⟩ :: flatP acc cur p t := by simp [flatP, List.filter_cons, hs]
   have hs' : ((x.f_Acc != acc) || (x.f_Amount.f_Cur != cur)) = false := by
    simp only [selL, Bool.and_eq_true, beq_iff_eq] at hs
    simp [hs.1, hs.2]
   rw [hf]
   have hgf : greatF g ((⟨p.f_Known, p.f_Value, x.f_Amount.f_Minor⟩ : T_balance_leg) :: flatP acc cur p t) = if 1000000000000000000 - g < absI x.f_Amount.f_Minor then none else greatF (g + absI x.f_Amount.f_Minor) (flatP acc cur p t) := rfl
   rw [hgf]
   by_cases hg : 1000000000000000000 - g < absI x.f_Amount.f_Minor
   ·rw [if_pos hg, loopO_out (o := .inr (.inr (.inr ([], 9))))]
    simp only [hd, if_true, hx, Option.bind_some, hs', Bool.false_eq_true, if_false, great_add_eq hi.1 hi.2 h0 h1, if_pos hg]
   ·rw [if_neg hg]
    have ea : apO 16 row [(⟨p.f_Known, p.f_Value, x.f_Amount.f_Minor⟩ : T_balance_leg)] = some (row ++ [⟨p.f_Known, p.f_Value, x.f_Amount.f_Minor⟩]) := apO_eq (by simp; omega)
    have := ih (pre ++ [x]) (g + absI x.f_Amount.f_Minor) (row ++ [⟨p.f_Known, p.f_Value, x.f_Amount.f_Minor⟩]) (by simp [he]) (by omega) (by omega) (by simp; omega)
    rw [loopO_on (s' := ((((pre ++ [x]).length : Nat) : Int), g + absI x.f_Amount.f_Minor, row ++ [⟨p.f_Known, p.f_Value, x.f_Amount.f_Minor⟩])), this]
    ·simp
    ·simp only [hd, if_true, hx, Option.bind_some, hs', Bool.false_eq_true, if_false, great_add_eq hi.1 hi.2 h0 h1, if_neg hg, ea, e1]
  ·have hf : flatP acc cur p (x :: t) = flatP acc cur p t := by simp [flatP, List.filter_cons, hs]
   have hs' : ((x.f_Acc != acc) || (x.f_Amount.f_Cur != cur)) = true := by
    simp only [selL, Bool.and_eq_true, beq_iff_eq] at hs
    by_cases h : x.f_Acc = acc
    ·simp [h] at hs ⊢
     exact hs
    ·simp [h]
   rw [hf]
   have := ih (pre ++ [x]) g row (by simp [he]) h0 h1 (by omega)
   rw [loopO_on (s' := ((((pre ++ [x]).length : Nat) : Int), g, row)), this]
   simp only [hd, if_true, hx, Option.bind_some, hs', e1]
theorem flatP_len (acc cur : Int) (p : T_api_Posting) (l : List T_api_Leg) : (flatP acc cur p l).length ≤ l.length := by
 unfold flatP
 rw [List.length_map]
 exact List.length_filter_le _ _
structure FitL (l : List T_api_Posting) : Prop where
 few : l.length ≤ 40
 legs : ∀ p ∈ l, p.f_Legs.length ≤ 6
 fits : ∀ p ∈ l, ∀ x ∈ p.f_Legs, legI x
theorem legs_out {l : List T_api_Posting} {acc cur : Int} (hl : FitL l) : ∀ (t pre : List T_api_Posting) (g : Int) (row : List T_balance_leg), l = pre ++ t → 0 ≤ g → g ≤ 1000000000000000000 → row.length + t.length * 6 ≤ 1000000 →
  loopO (fun (qj4 : Int × Int × (List T_balance_leg)) => match qj4 with
  | (x5, g6, row7) => (
   if (decide (x5 < (l.length : Int))) = true then
    (rdO l x5).bind fun x8 =>
    ((loopO (fun (qj9 : Int × Int × (List T_balance_leg)) => match qj9 with
      | (x10, g11, row12) => (
       if (decide (x10 < (x8.f_Legs.length : Int))) = true then
        (((rdO x8.f_Legs x10).bind fun x14 =>
        (some (x14.f_Acc != acc)).bind fun c15 =>
        if (c15 || (x14.f_Amount.f_Cur != cur)) = true then
         some (.inl (g11, row12))
        else
         (balance_great_add x14.f_Amount.f_Minor (⟨g11⟩ : T_balance_great)).bind fun x16 =>
         if x16.1 = true then
          some (.inr (.inr (.inr (.inr (.inr (([] : List T_balance_leg), 9))))))
         else
          (apO 16 row12 [(⟨x8.f_Known, x8.f_Value, x14.f_Amount.f_Minor⟩ : T_balance_leg)]).bind fun x17 =>
          some (.inl (x16.2, x17))) : Option ((Int × (List T_balance_leg)) ⊕ ((Int × Int × (List T_balance_leg)) ⊕ ((Int × (List T_balance_leg)) ⊕ ((Int × Int × (List T_balance_leg)) ⊕ ((List T_balance_leg) ⊕ ((List T_balance_leg) × Int))))))).bind fun j13 => match j13 with
        | .inr o => some o
        | .inl (g18, row19) =>
        some (.inl (IntKind.wrap .i64 (x10 + 1), g18, row19))
       else
        some (.inr (.inl (g11, row12))) : Option ((Int × Int × (List T_balance_leg)) ⊕ ((Int × (List T_balance_leg)) ⊕ ((Int × Int × (List T_balance_leg)) ⊕ ((List T_balance_leg) ⊕ ((List T_balance_leg) × Int))))))) (0, g6, row7)) : Option ((Int × (List T_balance_leg)) ⊕ ((Int × Int × (List T_balance_leg)) ⊕ ((List T_balance_leg) ⊕ ((List T_balance_leg) × Int))))).bind fun j9 => match j9 with
    | .inr o => some o
    | .inl (g20, row21) =>
    some (.inl (IntKind.wrap .i64 (x5 + 1), g20, row21))
   else
    some (.inr (.inl row7)) : Option ((Int × Int × (List T_balance_leg)) ⊕ ((List T_balance_leg) ⊕ ((List T_balance_leg) × Int))))) ((pre.length : Int), g, row)
   = some (match greatF g (flatL acc cur t) with | none => .inr ([], 9) | some g' => .inl (row ++ flatL acc cur t)) := by
 intro t
 induction t with
 | nil =>
  intro pre g row he _ _ _
  rw [loopO_out (o := .inl row)]
  ·simp [flatL, greatF]
  ·have : decide ((pre.length : Int) < (l.length : Int)) = false := by rw [he]; simp
   simp only [this, Bool.false_eq_true, if_false]
 | cons p t ih =>
  intro pre g row he h0 h1 hrow
  have hlen : l.length = pre.length + (t.length + 1) := by rw [he]; simp
  have hf := hl.few
  have hmem : p ∈ l := by rw [he]; simp
  have h6 := hl.legs p hmem
  simp only [List.length_cons] at hrow
  have hd : decide ((pre.length : Int) < (l.length : Int)) = true := by simp; omega
  have hx : rdO l (pre.length : Int) = some p := by rw [he]; exact rd_mid rfl
  have e1 : IntKind.wrap .i64 ((pre.length : Int) + 1) = (((pre ++ [p]).length : Nat) : Int) := wN (by simp) (by simp; omega)
  have hin := legs_in (p := p) (acc := acc) (cur := cur) (hl.fits p hmem) (by omega) p.f_Legs [] g row rfl h0 h1 (by omega)
  have e0 : (((([] : List T_api_Leg).length : Nat)) : Int) = 0 := rfl
  rw [e0] at hin
  have hfl : flatL acc cur (p :: t) = flatP acc cur p p.f_Legs ++ flatL acc cur t := rfl
  rw [hfl, greatF_append]
  cases hg : greatF g (flatP acc cur p p.f_Legs) with
  | none =>
   rw [hg] at hin
   rw [loopO_out (o := .inr ([], 9))]
   ·rfl
   ·simp only [hd, if_true, hx, Option.bind_some]
    exact bind_at hin rfl
  | some g' =>
   rw [hg] at hin
   have hr := greatF_range _ hg h0 h1
   have := ih (pre ++ [p]) g' (row ++ flatP acc cur p p.f_Legs) (by simp [he]) (by omega) (by omega) (by have := flatP_len acc cur p p.f_Legs; simp; omega)
   rw [loopO_on (s' := ((((pre ++ [p]).length : Nat) : Int), g', row ++ flatP acc cur p p.f_Legs)), this]
   ·simp
   ·simp only [hd, if_true, hx, Option.bind_some, e1]
    exact bind_at hin rfl
theorem legs_eq {l : List T_api_Posting} (hl : FitL l) (acc cur : Int) : balance_legs l acc cur = some (match greatF 0 (flatL acc cur l) with | none => ([], 9) | some _ => (flatL acc cur l, 0)) := by
 unfold balance_legs
 have := legs_out (acc := acc) (cur := cur) hl l [] 0 [] rfl (by omega) (by omega) (by have := hl.few; simp; omega)
 have e0 : (((([] : List T_api_Posting).length : Nat)) : Int) = 0 := rfl
 rw [e0] at this
 refine bind_at this ?_
 cases greatF 0 (flatL acc cur l) <;> rfl
theorem sum_loop {l : List T_balance_leg} {e : Int} (hl : l.length < 1000000) : ∀ (t pre : List T_balance_leg) (n g G : Int), l = pre ++ t → greatF g t = some G → 0 ≤ g → g ≤ 1000000000000000000 → -g ≤ n → n ≤ g →
  loopO (fun (qj3 : Int × Int) => match qj3 with
  | (n4, x5) => (
   if (decide (x5 < (l.length : Int))) = true then
    (rdO l x5).bind fun x6 =>
    (balance_Of_1 x6 e).bind fun x7 =>
    ((if x7 = true then
      some (IntKind.wrap .i64 (n4 + x6.f_minor))
    else
     some n4) : Option Int).bind fun j8 =>
    some (.inl (j8, IntKind.wrap .i64 (x5 + 1)))
   else
    some (.inr n4) : Option ((Int × Int) ⊕ Int))) (n, (pre.length : Int)) = some (n + sumV e t) := by
 intro t
 induction t with
 | nil =>
  intro pre n g G he _ _ _ _ _
  rw [loopO_out (o := n)]
  ·simp [sumV]
  ·have : decide ((pre.length : Int) < (l.length : Int)) = false := by rw [he]; simp
   simp only [this, Bool.false_eq_true, if_false]
 | cons x t ih =>
  intro pre n g G he hg h0 h1 h2 h3
  have hlen : l.length = pre.length + (t.length + 1) := by rw [he]; simp
  have hd : decide ((pre.length : Int) < (l.length : Int)) = true := by simp; omega
  have hx : rdO l (pre.length : Int) = some x := by rw [he]; exact rd_mid rfl
  have e1 : IntKind.wrap .i64 ((pre.length : Int) + 1) = (((pre ++ [x]).length : Nat) : Int) := wN (by simp) (by simp; omega)
  have ha := absI_pos x.f_minor
  have hg' : (if 1000000000000000000 - g < absI x.f_minor then none else greatF (g + absI x.f_minor) t) = some G := hg
  split at hg'
  ·cases hg'
  ·have hsv : sumV e (x :: t) = (if x.f_value ≤ e then x.f_minor else 0) + sumV e t := rfl
   rw [hsv]
   by_cases hv : x.f_value ≤ e
   ·have ew : IntKind.wrap .i64 (n + x.f_minor) = n + x.f_minor := wrap64 (by omega) (by omega)
    have := ih (pre ++ [x]) (n + x.f_minor) _ _ (by simp [he]) hg' (by omega) (by omega) (by omega) (by omega)
    rw [loopO_on (s' := (n + x.f_minor, (((pre ++ [x]).length : Nat) : Int))), this, if_pos hv, Int.add_assoc]
    simp only [hd, if_true, hx, Option.bind_some, balance_Of_1, decide_eq_true hv, ew, e1]
   ·have := ih (pre ++ [x]) n _ _ (by simp [he]) hg' (by omega) (by omega) (by omega) (by omega)
    rw [loopO_on (s' := (n, (((pre ++ [x]).length : Nat) : Int))), this, if_neg hv, Int.zero_add]
    simp only [hd, if_true, hx, Option.bind_some, balance_Of_1, decide_eq_false hv, Bool.false_eq_true, if_false, e1]
theorem flatL_len (acc cur : Int) : ∀ {l : List T_api_Posting}, (∀ p ∈ l, p.f_Legs.length ≤ 6) → (flatL acc cur l).length ≤ l.length * 6
 | [], _ => by simp [flatL]
 | p :: t, h => by
  have h1 := flatP_len acc cur p p.f_Legs
  have h2 := flatL_len acc cur (l := t) (fun q hq => h q (by simp [hq]))
  have h3 := h p (by simp)
  simp only [flatL, List.length_append, List.length_cons]
  omega
theorem bsum_eq {l : List T_balance_leg} {G : Int} (hl : l.length < 1000000) (hg : greatF 0 l = some G) (e : Int) : balance_sum l e = some (sumV e l) := by
 unfold balance_sum
 have := sum_loop (e := e) hl l [] 0 0 G rfl hg (by omega) (by omega) (by omega) (by omega)
 have e0 : (((([] : List T_balance_leg).length : Nat)) : Int) = 0 := rfl
 rw [e0] at this
 rw [this, Int.zero_add]
 rfl
theorem bsum_nil (e : Int) : balance_sum [] e = some 0 := bsum_eq (G := 0) (by simp) rfl e
theorem bmay_eq {l : List T_api_Posting} (hl : l.length ≤ 2000) {d : Int} (hd : -50000 ≤ d) (hd' : d ≤ 50000) : balance_may l d d [] = some 0 := by
 have h1 : balance_may_1 d = some false := by simp [balance_may_1, date_Right, hd, hd']
 have h2 : slices_ContainsFunc_Date_Date [] = some false := by
  unfold slices_ContainsFunc_Date_Date slices_IndexFunc_Date_Date
  rw [loopO_out (o := Sum.inl ())]
  ·rfl
  ·rfl
 have h3 : decide ((l.length : Int) > 2000) = false := decide_eq_false (by omega)
 have h4 : decide (d > d) = false := decide_eq_false (by omega)
 unfold balance_may
 simp only [h3, h1, gdO_some, h2, h4, Option.bind_some, Bool.false_eq_true, if_false, Bool.not_false, Bool.or_self, cond_true]
theorem bof_eq {l : List T_api_Posting} (hl : FitL l) (acc cur : Int) {d : Int} (hd : -50000 ≤ d) (hd' : d ≤ 50000) : balance_Of l acc cur d = some (match greatF 0 (flatL acc cur l) with | none => (0, 9) | some _ => (sumV d (flatL acc cur l), 0)) := by
 unfold balance_Of
 rw [bmay_eq (by have := hl.few; omega) hd hd']
 simp only [Option.bind_some, bne_self_eq_false, Bool.false_eq_true, if_false, legs_eq hl]
 have hlen := flatL_len acc cur hl.legs
 have hf := hl.few
 cases hg : greatF 0 (flatL acc cur l) with
 | none => simp only [bsum_nil, Option.bind_some]
 | some G => simp only [bsum_eq (show (flatL acc cur l).length < 1000000 by omega) hg, Option.bind_some]
end Go.Av.G
end
section
set_option linter.unusedVariables false
set_option linter.unusedSimpArgs false
set_option maxRecDepth 4000
set_option maxHeartbeats 4000000
namespace Go.Av.G
open Go Go.Av Go.Proofs
def okLim (x : T_api_Limit) : Bool := decide (1 ≤ x.f_Acc ∧ x.f_Acc ≤ 999 ∧ 0 ≤ x.f_Minor ∧ x.f_Minor ≤ 1000000000000000)
structure LimP (l : List T_api_Limit) : Prop where
 ok : ∀ x ∈ l, okLim x = true
 rise : Rise (fun x : T_api_Limit => x.f_Acc) l
 few : l.length ≤ 200
def limQ (l : List T_api_Limit) (i : Nat) : Bool := ((l[i]?).any fun x => !okLim x) || (decide (0 < i) && descends (fun x : T_api_Limit => x.f_Acc) l i)
theorem limQ_iff {l : List T_api_Limit} (h : l.length ≤ 200) : (List.range' 0 l.length).any (limQ l) = false ↔ LimP l := by
 rw [any_idx]
 constructor
 ·intro hq
  refine ⟨fun x hx => ?_, descends_rise.1 fun i hi => ?_, h⟩
  ·obtain ⟨i, hi, rfl⟩ := List.getElem_of_mem hx
   have := hq i hi
   unfold limQ at this
   rw [List.getElem?_eq_getElem hi] at this
   simp at this
   exact this.1
  ·have := hq i hi
   unfold limQ at this
   simp only [Bool.or_eq_false_iff] at this
   exact this.2
 ·intro hl i hi
  unfold limQ
  rw [descends_rise.2 hl.rise i hi, List.getElem?_eq_getElem hi]
  simp [hl.ok _ (List.getElem_mem hi)]
def limR (l : List T_api_Limit) (acc : Int) : Int := match fstIdx l (fun x => x.f_Acc == acc) with | some i => ((l[i]?).getD default).f_Minor | none => 0
theorem limR_range {l : List T_api_Limit} (hl : LimP l) (acc : Int) : 0 ≤ limR l acc ∧ limR l acc ≤ 1000000000000000 := by
 unfold limR
 cases hi : fstIdx l (fun x => x.f_Acc == acc) with
 | none => simp
 | some i =>
  obtain ⟨h, _, _⟩ := fstIdx_some hi
  have := of_decide_eq_true (hl.ok _ (List.getElem_mem h))
  simp only [List.getElem?_eq_getElem h, Option.getD_some]
  omega
theorem idxLim_eq (l : List T_api_Limit) (acc : Int) (hn : l.length < 4611686018427387904) : slices_IndexFunc_Limit_Limit l acc = some (match fstIdx l (fun x => x.f_Acc == acc) with | some i => ((i : Nat) : Int) | none => -1) := by
 unfold slices_IndexFunc_Limit_Limit
 rw [loopL_idx (l := l) (fun x => x.f_Acc == acc) (o := fun i => (Sum.inr (i : Int) : Unit ⊕ Int)) (e := Sum.inl ()) hn]
 ·cases fstIdx l (fun x => x.f_Acc == acc) <;> rfl
 ·intro i h
  simp only [decide_eq_true_eq]
  rw [if_pos (by omega), rdO_at h]
  simp only [Option.bind_some, avail_ask_1]
  split <;> rfl
 ·intro i h
  simp only [decide_eq_true_eq]
  rw [if_neg (by omega)]
structure RightT (t : T_api_Till) : Prop where
 chart : RightP t.f_Chart
 few : t.f_L.length ≤ 2000
 holds : GoodL t.f_Holds
 limits : LimP t.f_Limits
structure FewT (t : T_api_Till) : Prop where
 chart : Fits t.f_Chart
 legs : t.f_L.length ≤ 2000 → FitL t.f_L
 holds : t.f_Holds.length ≤ 100
 limits : t.f_Limits.length ≤ 40
theorem in_Account_eq (n lo hi : Int) : avail_in_Account n lo hi = some (decide (n ≥ lo) && decide (n ≤ hi)) := by simp [avail_in_Account]
theorem in_int64_eq (n lo hi : Int) : avail_in_int64 n lo hi = some (decide (n ≥ lo) && decide (n ≤ hi)) := by simp [avail_in_int64]
theorem Right_loop {l : List T_api_Limit} (hn : l.length < 4611686018427387904) :
  loopO (fun (qj2 : Int) => match qj2 with
  | x3 => (
   if (decide (x3 < (l.length : Int))) = true then
    (rdO l x3).bind fun x4 =>
    (avail_in_Account x4.f_Acc 1 999).bind fun x5 =>
    (some (!x5)).bind fun c6 =>
    (gdO (!c6) (avail_in_int64 x4.f_Minor 0 1000000000000000) (default : Bool)).bind fun x7 =>
    (some (c6 || (!x7))).bind fun c8 =>
    (some (decide (x3 > 0))).bind fun c9 =>
    (gdO ((!c8) && c9) (rdO l (IntKind.wrap .i64 (x3 - 1))) (default : T_api_Limit)).bind fun x10 =>
    if (c8 || (c9 && (decide (x10.f_Acc ≥ x4.f_Acc)))) = true then
     some (.inr (.inr false))
    else
     some (.inl (IntKind.wrap .i64 (x3 + 1)))
   else
    some (.inr (.inl ())) : Option (Int ⊕ (Unit ⊕ Bool)))) 0 = some (if (List.range' 0 l.length).any (limQ l) = true then .inr false else .inl ()) := by
 rw [loopI_any0 (n := l.length) (q := limQ l) (o := (Sum.inr false : Unit ⊕ Bool)) (e := Sum.inl ()) hn]
 ·intro i h
  simp only [decide_eq_true_eq]
  rw [if_pos (by omega), rdO_at h]
  simp only [Option.bind_some, in_Account_eq, in_int64_eq, gdO_some]
  unfold limQ
  rw [List.getElem?_eq_getElem h]
  simp only [Option.any_some]
  have hb : (!(decide (l[i].f_Acc ≥ 1) && decide (l[i].f_Acc ≤ 999)) || !(bif (!!(decide (l[i].f_Acc ≥ 1) && decide (l[i].f_Acc ≤ 999))) then (decide (l[i].f_Minor ≥ 0) && decide (l[i].f_Minor ≤ 1000000000000000)) else default)) = !okLim l[i] := by
   unfold okLim
   by_cases h1 : 1 ≤ l[i].f_Acc <;> by_cases h2 : l[i].f_Acc ≤ 999 <;> by_cases h3 : 0 ≤ l[i].f_Minor <;> by_cases h4 : l[i].f_Minor ≤ 1000000000000000 <;> simp [h1, h2, h3, h4]
  rw [hb]
  by_cases hk : okLim l[i] = true
  ·cases i with
   | zero => simp [hk, gdO]
   | succ i =>
    have e1 : IntKind.wrap .i64 (((i + 1 : Nat) : Int) - 1) = (i : Int) := by rw [wrap64 (by omega) (by omega)]; omega
    have e2 : decide (((i + 1 : Nat) : Int) > 0) = true := decide_eq_true (by omega)
    rw [e1, e2, rdO_at (by omega), descends_at (by omega) h]
    by_cases hd : (l[i]).f_Acc ≥ (l[i + 1]).f_Acc <;> simp [hk, gdO, hd]
  ·have hk' : okLim l[i] = false := by simpa using hk
   simp [hk', gdO]
 ·intro i h
  simp only [decide_eq_true_eq]
  rw [if_neg (by omega)]
theorem ARight_spec {t : T_api_Till} (hf : FewT t) : ∃ b, avail_Right t = some b ∧ (b = true ↔ RightT t) := by
 unfold avail_Right
 obtain ⟨c, ec, hc⟩ := Right_spec t.f_Chart (by have := hf.chart.1; omega) (by have := hf.chart.2.1; omega)
 have hlim := hf.limits
 have hh := hf.holds
 have e := Right_loop (l := t.f_Limits) (by omega)
 by_cases hq : (List.range' 0 t.f_Limits.length).any (limQ t.f_Limits) = true
 ·rw [if_pos hq] at e
  refine ⟨false, bind_at e rfl, by simp, fun hr => ?_⟩
  rw [(limQ_iff (by omega)).2 hr.limits] at hq
  cases hq
 ·rw [if_neg hq] at e
  have hl := (limQ_iff (by omega)).1 (Bool.eq_false_iff.2 hq)
  refine ⟨_, bind_at e (by simp only [ec, check_eq t.f_Holds (by omega), gdO_some, Option.bind_some]; rfl), ?_⟩
  have h200 : decide ((t.f_Limits.length : Int) ≤ 200) = true := decide_eq_true (by omega)
  rw [h200]
  constructor
  ·intro hb
   cases c with
   | false => simp at hb
   | true =>
    by_cases h2 : t.f_L.length ≤ 2000
    ·have h2' : decide ((t.f_L.length : Int) ≤ 2000) = true := decide_eq_true (by omega)
     rw [h2'] at hb
     simp at hb
     exact ⟨hc.1 rfl, h2, chkH_good.1 hb, hl⟩
    ·have h2' : decide ((t.f_L.length : Int) ≤ 2000) = false := decide_eq_false (by omega)
     rw [h2'] at hb
     simp at hb
  ·intro hr
   have h2' : decide ((t.f_L.length : Int) ≤ 2000) = true := decide_eq_true (by have := hr.few; omega)
   rw [hc.2 hr.chart, h2', chkH_good.2 hr.holds]
   rfl
theorem ARight_at {t : T_api_Till} (hf : FewT t) (h : RightT t) : avail_Right t = some true := by
 obtain ⟨b, e, hb⟩ := ARight_spec hf
 rw [e, hb.2 h]
theorem ARight_not {t : T_api_Till} (hf : FewT t) (h : ¬ RightT t) : avail_Right t = some false := by
 obtain ⟨b, e, hb⟩ := ARight_spec hf
 cases b with
 | true => exact absurd (hb.1 rfl) h
 | false => exact e
def recI (t : T_api_Till) (acc : Int) : Option Nat := fstIdx t.f_Chart.f_Records (fun r => r.f_Acc == acc)
def recT (t : T_api_Till) (acc : Int) : T_api_Record := match recI t acc with | some i => (t.f_Chart.f_Records[i]?).getD default | none => default
def whyR (t : T_api_Till) (r : T_api_Record) (acc now : Int) : Int :=
 if r.f_Kind ≠ 1 then 13 else if ¬ (-50000 ≤ now ∧ now ≤ 50000) then 11 else if ¬ (r.f_From ≤ now ∧ now ≤ r.f_To) then 16 else match greatF 0 (flatL acc r.f_Cur t.f_L) with | none => 9 | some _ => 0
def whyT (t : T_api_Till) (acc now : Int) : Int := match recI t acc with | none => 8 | some _ => whyR t (recT t acc) acc now
def fundsT (t : T_api_Till) (acc now : Int) : Int := - sumV now (flatL acc (recT t acc).f_Cur t.f_L)
def freeT (t : T_api_Till) (acc now rank : Int) : Int := fundsT t acc now + limR t.f_Limits acc - sumL t.f_Holds acc (recT t acc).f_Cur now rank
theorem whyR_ok {t : T_api_Till} {r : T_api_Record} {acc now : Int} (h : whyR t r acc now = 0) : r.f_Kind = 1 ∧ -50000 ≤ now ∧ now ≤ 50000 ∧ r.f_From ≤ now ∧ now ≤ r.f_To ∧ ∃ G, greatF 0 (flatL acc r.f_Cur t.f_L) = some G := by
 unfold whyR at h
 split at h
 ·cases h
 ·split at h
  ·cases h
  ·split at h
   ·cases h
   ·rename_i h1 h2 h3
    cases hg : greatF 0 (flatL acc r.f_Cur t.f_L) with
    | none => rw [hg] at h; cases h
    | some G => exact ⟨by simpa using h1, by omega, by omega, by omega, by omega, G, rfl⟩
theorem whyT_rec {t : T_api_Till} {acc now : Int} (h : whyT t acc now = 0) : ∃ (i : Nat) (hi : i < t.f_Chart.f_Records.length), recI t acc = some i ∧ recT t acc = t.f_Chart.f_Records[i] ∧ t.f_Chart.f_Records[i].f_Acc = acc ∧ whyR t (recT t acc) acc now = 0 := by
 unfold whyT at h
 cases hi : recI t acc with
 | none => rw [hi] at h; cases h
 | some i =>
  rw [hi] at h
  obtain ⟨h1, h2, _⟩ := fstIdx_some hi
  refine ⟨i, h1, rfl, ?_, by simpa using h2, h⟩
  unfold recT
  rw [hi]
  simp [List.getElem?_eq_getElem h1]
theorem funds_range {t : T_api_Till} {acc now : Int} (h : whyT t acc now = 0) : -1000000000000000000 ≤ fundsT t acc now ∧ fundsT t acc now ≤ 1000000000000000000 := by
 obtain ⟨i, hi, _, _, _, hw⟩ := whyT_rec h
 obtain ⟨_, _, _, _, _, G, hG⟩ := whyR_ok hw
 have h1 := sumV_range now _ hG
 have h2 := greatF_range _ hG (by omega) (by omega)
 unfold fundsT
 omega
theorem chk0 : avail_check 0 = some none := rfl
theorem chkS {e : Int} (h : e ≠ 0) : avail_check e = some (some e) := by
 unfold avail_check
 rw [if_neg (by simpa using h)]
theorem ask_spec {t : T_api_Till} (hf : FewT t) (hr : RightT t) (acc now : Int) : ∃ a, avail_ask t acc now = some (a, if whyT t acc now = 0 then none else some (whyT t acc now)) ∧ (whyT t acc now = 0 → a = ⟨(recT t acc).f_Cur, fundsT t acc now, limR t.f_Limits acc⟩) := by
 have hF := hf.legs hr.few
 unfold avail_ask
 cases hi : recI t acc with
 | none =>
  have hno : ∀ x ∈ t.f_Chart.f_Records, x.f_Acc ≠ acc := fun x hx => by simpa using fstIdx_none hi x hx
  have hw : whyT t acc now = 8 := by unfold whyT; rw [hi]
  rw [hw, Find_none hf.chart hr.chart hno]
  exact ⟨⟨0, 0, 0⟩, rfl, fun h => by cases h⟩
 | some i =>
  obtain ⟨h1, h2, _⟩ := fstIdx_some hi
  have h2 : t.f_Chart.f_Records[i].f_Acc = acc := by simpa using h2
  have hrec : recT t acc = t.f_Chart.f_Records[i] := by unfold recT; rw [hi]; simp [List.getElem?_eq_getElem h1]
  have hw : whyT t acc now = whyR t t.f_Chart.f_Records[i] acc now := by unfold whyT; rw [hi, ← hrec]
  have hlim := hf.limits
  have hfun : fundsT t acc now = - sumV now (flatL acc t.f_Chart.f_Records[i].f_Cur t.f_L) := by unfold fundsT; rw [hrec]
  have hIs := Is_at hf.chart hr.chart (d := now) h1 h2
  rw [hw, Find_at hf.chart hr.chart h1 h2, hrec, hfun]
  generalize t.f_Chart.f_Records[i] = r at h2 hIs ⊢
  simp only [Option.bind_some, chk0, Option.isSome_none, Bool.false_eq_true, if_false, hIs]
  by_cases hk : r.f_Kind = 1
  ·have hk' : (r.f_Kind != 1) = false := by simpa using hk
   simp only [hk', Bool.false_eq_true, if_false]
   by_cases hn : -50000 ≤ now ∧ now ≤ 50000
   ·have hn' : (decide (-50000 ≤ now) && decide (now ≤ 50000)) = true := by simp [hn]
    simp only [hn', if_true, Option.bind_some, chk0, Option.isSome_none, Bool.false_eq_true, if_false]
    by_cases ho : r.f_From ≤ now ∧ now ≤ r.f_To
    ·have ho' : (!(decide (now ≥ r.f_From) && decide (now ≤ r.f_To))) = false := by simp [ho]
     have hx : ∃ q : Int, slices_IndexFunc_Limit_Limit t.f_Limits acc = some q ∧ ((if (decide (q ≥ 0)) = true then (rdO t.f_Limits q).bind fun x11 => some x11.f_Minor else some 0) : Option Int) = some (limR t.f_Limits acc) := by
      refine ⟨_, idxLim_eq t.f_Limits acc (by omega), ?_⟩
      unfold limR
      cases hx : fstIdx t.f_Limits (fun x => x.f_Acc == acc) with
      | none => rfl
      | some k =>
       obtain ⟨hk, _, _⟩ := fstIdx_some hx
       simp only [rdO_at hk, List.getElem?_eq_getElem hk, Option.getD_some, Option.bind_some]
       rw [if_pos (by simp)]
     obtain ⟨q, hq, hj⟩ := hx
     simp only [ho', Bool.false_eq_true, if_false, bof_eq hF acc r.f_Cur hn.1 hn.2, hq, Option.bind_some, hj]
     cases hg : greatF 0 (flatL acc r.f_Cur t.f_L) with
     | none =>
      have hwv : whyR t r acc now = 9 := by
       unfold whyR
       rw [if_neg (not_not_intro hk), if_neg (not_not_intro hn), if_neg (not_not_intro ho), hg]
      rw [hwv]
      exact ⟨_, rfl, fun h => by cases h⟩
     | some G =>
      have hwv : whyR t r acc now = 0 := by
       unfold whyR
       rw [if_neg (not_not_intro hk), if_neg (not_not_intro hn), if_neg (not_not_intro ho), hg]
      have h3 := sumV_range now _ hg
      have h4 := greatF_range _ hg (by omega) (by omega)
      have ew : IntKind.wrap .i64 (0 - sumV now (flatL acc r.f_Cur t.f_L)) = - sumV now (flatL acc r.f_Cur t.f_L) := by rw [wrap64 (by omega) (by omega)]; omega
      rw [hwv]
      refine ⟨⟨r.f_Cur, - sumV now (flatL acc r.f_Cur t.f_L), limR t.f_Limits acc⟩, ?_, fun _ => rfl⟩
      simp only [chk0, Option.bind_some, ew, if_true]
    ·have ho' : (!(decide (now ≥ r.f_From) && decide (now ≤ r.f_To))) = true := by
      rw [Bool.not_eq_true', Bool.eq_false_iff]
      intro h
      simp at h
      exact ho h
     have hwv : whyR t r acc now = 16 := by
      unfold whyR
      rw [if_neg (not_not_intro hk), if_neg (not_not_intro hn), if_pos ho]
     rw [hwv]
     simp only [ho', if_true]
     exact ⟨_, rfl, fun h => by cases h⟩
   ·have hn' : (decide (-50000 ≤ now) && decide (now ≤ 50000)) = false := by
     rw [Bool.eq_false_iff]
     intro h
     simp at h
     exact hn h
    have hwv : whyR t r acc now = 11 := by
     unfold whyR
     rw [if_neg (not_not_intro hk), if_pos hn]
    rw [hwv]
    simp only [hn', Bool.false_eq_true, if_false, Option.bind_some, chkS (show (11 : Int) ≠ 0 by decide), Option.isSome_some, if_true]
    exact ⟨_, rfl, fun h => by cases h⟩
  ·have hk' : (r.f_Kind != 1) = true := by simpa using hk
   have hwv : whyR t r acc now = 13 := by
    unfold whyR
    rw [if_pos hk]
   rw [hwv]
   simp only [hk', if_true]
   exact ⟨_, rfl, fun h => by cases h⟩
theorem Funds_bad {t : T_api_Till} (hf : FewT t) (hr : ¬ RightT t) (acc now : Int) : avail_Funds t acc now = some (0, 1) := by
 unfold avail_Funds
 rw [ARight_not hf hr]
 rfl
theorem Funds_why {t : T_api_Till} (hf : FewT t) (hr : RightT t) {acc now : Int} (hw : whyT t acc now ≠ 0) : avail_Funds t acc now = some (0, whyT t acc now) := by
 obtain ⟨a, ha, _⟩ := ask_spec hf hr acc now
 rw [if_neg hw] at ha
 unfold avail_Funds
 rw [ARight_at hf hr]
 simp only [Option.bind_some, Bool.not_true, Bool.false_eq_true, if_false, ha, Option.isSome_some, if_true, avail_whyOf, Option.getD_some]
theorem Funds_at {t : T_api_Till} (hf : FewT t) (hr : RightT t) {acc now : Int} (hw : whyT t acc now = 0) : avail_Funds t acc now = some (fundsT t acc now, 0) := by
 obtain ⟨a, ha, hv⟩ := ask_spec hf hr acc now
 rw [if_pos hw] at ha
 obtain rfl := hv hw
 unfold avail_Funds
 rw [ARight_at hf hr]
 simp only [Option.bind_some, Bool.not_true, Bool.false_eq_true, if_false, ha, Option.isSome_none]
theorem in_int_eq (n lo hi : Int) : avail_in_int n lo hi = some (decide (n ≥ lo) && decide (n ≤ hi)) := by simp [avail_in_int]
theorem lims_range {t : T_api_Till} (hf : FewT t) (hr : RightT t) {acc now : Int} (hw : whyT t acc now = 0) (rank : Int) : -1000000000000000000 ≤ fundsT t acc now ∧ fundsT t acc now ≤ 1000000000000000000 ∧ 0 ≤ limR t.f_Limits acc ∧ limR t.f_Limits acc ≤ 1000000000000000 ∧
  0 ≤ sumL t.f_Holds acc (recT t acc).f_Cur now rank ∧ sumL t.f_Holds acc (recT t acc).f_Cur now rank ≤ 100000000000000000 := by
 have h1 := funds_range hw
 have h2 := limR_range hr.limits acc
 have h3 := sumL_range acc (recT t acc).f_Cur now rank t.f_Holds
 have h4 := hf.holds
 refine ⟨h1.1, h1.2, h2.1, h2.2, h3.1, ?_⟩
 have h5 : ((t.f_Holds.length : Nat) : Int) ≤ 100 := by omega
 omega
theorem free_eq {t : T_api_Till} (hf : FewT t) (hr : RightT t) {acc now : Int} (hw : whyT t acc now = 0) (rank : Int) : avail_account_free ⟨(recT t acc).f_Cur, fundsT t acc now, limR t.f_Limits acc⟩ t acc now rank = some (freeT t acc now rank) := by
 have h := lims_range hf hr hw rank
 unfold avail_account_free
 rw [sum_eq hr.holds]
 have e1 : IntKind.wrap .i64 (fundsT t acc now + limR t.f_Limits acc) = fundsT t acc now + limR t.f_Limits acc := wrap64 (by omega) (by omega)
 have e2 : IntKind.wrap .i64 (fundsT t acc now + limR t.f_Limits acc - sumL t.f_Holds acc (recT t acc).f_Cur now rank) = fundsT t acc now + limR t.f_Limits acc - sumL t.f_Holds acc (recT t acc).f_Cur now rank := wrap64 (by omega) (by omega)
 simp only [Option.bind_some, e1, e2]
 rfl
theorem Free_bad {t : T_api_Till} (hf : FewT t) (hr : ¬ RightT t) (acc now rank : Int) : avail_Free t acc now rank = some (0, 1) := by
 unfold avail_Free
 rw [ARight_not hf hr]
 rfl
theorem Free_rank {t : T_api_Till} (hf : FewT t) {rank : Int} (hk : rank < 0 ∨ 9 < rank) (acc now : Int) : avail_Free t acc now rank = some (0, 1) := by
 by_cases hr : RightT t
 ·have hk' : (decide (rank ≥ 0) && decide (rank ≤ 9)) = false := by
   rw [Bool.eq_false_iff]; intro h; simp at h; omega
  unfold avail_Free
  rw [ARight_at hf hr]
  simp only [Option.bind_some, in_int_eq, hk', gdO_some, Bool.not_true, Bool.not_false, cond_true, Bool.or_true, if_true]
 ·exact Free_bad hf hr acc now rank
theorem Free_why {t : T_api_Till} (hf : FewT t) (hr : RightT t) {acc now rank : Int} (hk : 0 ≤ rank ∧ rank ≤ 9) (hw : whyT t acc now ≠ 0) : avail_Free t acc now rank = some (0, whyT t acc now) := by
 obtain ⟨a, ha, _⟩ := ask_spec hf hr acc now
 rw [if_neg hw] at ha
 have hk' : (decide (rank ≥ 0) && decide (rank ≤ 9)) = true := by simp [hk]
 unfold avail_Free
 rw [ARight_at hf hr]
 simp only [Option.bind_some, in_int_eq, hk', gdO_some, Bool.not_true, Bool.not_false, cond_true, Bool.or_self, Bool.false_eq_true, if_false, ha, Option.isSome_some, if_true, avail_whyOf, Option.getD_some]
theorem Free_at {t : T_api_Till} (hf : FewT t) (hr : RightT t) {acc now rank : Int} (hk : 0 ≤ rank ∧ rank ≤ 9) (hw : whyT t acc now = 0) : avail_Free t acc now rank = some (freeT t acc now rank, 0) := by
 obtain ⟨a, ha, hv⟩ := ask_spec hf hr acc now
 rw [if_pos hw] at ha
 obtain rfl := hv hw
 have hk' : (decide (rank ≥ 0) && decide (rank ≤ 9)) = true := by simp [hk]
 unfold avail_Free
 rw [ARight_at hf hr]
 simp only [Option.bind_some, in_int_eq, hk', gdO_some, Bool.not_true, Bool.not_false, cond_true, Bool.or_self, Bool.false_eq_true, if_false, ha, Option.isSome_none, free_eq hf hr hw]
def oneT : T_api_Till := ⟨⟨[], [⟨5, 1, 0, 0, 0, 0, 0, 50000⟩]⟩, [⟨0, 0, 3, [⟨5, ⟨0, (-100)⟩⟩], 0, 0, []⟩], [⟨1, 5, ⟨0, 30⟩, 2, 3, 9, 0, false⟩], []⟩
theorem one_few : FewT oneT := by
 refine ⟨⟨by simp [oneT], by simp [oneT], by simp [oneT]⟩, fun _ => ⟨by simp [oneT], by simp [oneT], ?_⟩, by simp [oneT], by simp [oneT]⟩
 intro p hp x hx
 simp [oneT] at hp
 subst hp
 simp at hx
 subst hx
 simp [legI]
theorem one_right : RightT oneT := by
 refine ⟨⟨by simp [oneT], by simp [oneT], ?_, ?_, by simp [oneT], ?_⟩, by simp [oneT], ⟨?_, ?_, by simp [oneT]⟩, ⟨by simp [oneT], ?_, by simp [oneT]⟩⟩
 ·intro i h; simp [oneT] at h
 ·intro i h; simp [oneT] at h
 ·intro x hx
  simp [oneT] at hx
  subst hx
  decide
 ·intro x hx
  simp [oneT] at hx
  subst hx
  decide
 ·intro i h; simp [oneT] at h
 ·intro i h; simp [oneT] at h
theorem one_why : whyT oneT 5 4 = 0 := by decide
theorem alive : cashbooklaw26_alive = some true := by
 unfold cashbooklaw26_alive
 have h1 : cashbooklaw26_one = some oneT := rfl
 have h2 := Free_at one_few one_right (acc := 5) (now := 4) (rank := 0) ⟨by omega, by omega⟩ one_why
 have h3 := Free_at one_few one_right (acc := 5) (now := 4) (rank := 3) ⟨by omega, by omega⟩ one_why
 have e2 : freeT oneT 5 4 0 = 70 := by decide
 have e3 : freeT oneT 5 4 3 = 100 := by decide
 simp only [h1, Option.bind_some, h2, h3, e2, e3]
 rfl
end Go.Av.G
end
section
set_option linter.unusedVariables false
set_option linter.unusedSimpArgs false
set_option maxRecDepth 4000
set_option maxHeartbeats 4000000
namespace Go.Av.G
open Go Go.Av Go.Proofs
def cutP (p : T_api_Posting) : T_api_Posting := ⟨p.f_ID, p.f_Known, p.f_Value, p.f_Legs.take 6, p.f_Reverses, p.f_Kind, p.f_Memo⟩
def cutT (t : T_api_Till) : T_api_Till := ⟨⟨t.f_Chart.f_Customers.take 20, t.f_Chart.f_Records.take 30⟩, if t.f_L.length ≤ 2000 then (t.f_L.take 40).map cutP else t.f_L, t.f_Holds.take 40, t.f_Limits.take 40⟩
theorem foldl_map {α β : Type} (f : α → β) : ∀ (l : List α) (s : List β), l.foldl (fun s x => s ++ [f x]) s = s ++ l.map f
 | [], s => by simp
 | x :: l, s => by rw [List.foldl_cons, foldl_map f l]; simp
theorem few_loop {l : List T_api_Posting} (hl : l.length ≤ 40) :
  loopO (fun (qj6 : Int × (List T_api_Posting)) => match qj6 with
   | (x7, row8) => (
    if (decide (x7 < (l.length : Int))) = true then
     (rdO l x7).bind fun x9 =>
     (slO x9.f_Legs 0 (if 6 < (x9.f_Legs.length : Int) then 6 else (x9.f_Legs.length : Int))).bind fun x10 =>
     (apO 72 row8 [(⟨x9.f_ID, x9.f_Known, x9.f_Value, x10, x9.f_Reverses, x9.f_Kind, x9.f_Memo⟩ : T_api_Posting)]).bind fun x11 =>
     some (.inl (IntKind.wrap .i64 (x7 + 1), x11))
    else
     some (.inr row8) : Option ((Int × (List T_api_Posting)) ⊕ (List T_api_Posting)))) (0, ([] : List T_api_Posting)) = some (l.map cutP) := by
 have hm : l.map cutP = l.foldl (fun s x => s ++ [cutP x]) [] := by rw [foldl_map]; rfl
 rw [hm, loopL_fold (l := l) (fun s x => s ++ [cutP x]) (fun s => s) (by omega)]
 ·intro i h
  have h3 := slO_cap (l[i]).f_Legs 6
  rw [show ((6 : Nat) : Int) = 6 from rfl] at h3
  have hap : ∀ x, apO 72 ((l.take i).foldl (fun s x => s ++ [cutP x]) []) [x] = some ((l.take i).foldl (fun s x => s ++ [cutP x]) [] ++ [x]) := by
   intro x
   refine apO_eq ?_
   rw [foldl_map]
   simp
   omega
  simp only [decide_eq_true_eq]
  rw [if_pos (by omega), rdO_at h]
  simp only [Option.bind_some, h3, hap]
  rfl
 ·simp only [decide_eq_true_eq]
  rw [if_neg (by omega)]
theorem few_eq (t : T_api_Till) : cashbooklaw26_few t = some (cutT t) := by
 have h1 := slO_cap t.f_Chart.f_Customers 20
 have h2 := slO_cap t.f_Chart.f_Records 30
 have h3 := slO_cap t.f_L 40
 have h4 := slO_cap t.f_Holds 40
 have h5 := slO_cap t.f_Limits 40
 rw [show ((20 : Nat) : Int) = 20 from rfl] at h1
 rw [show ((30 : Nat) : Int) = 30 from rfl] at h2
 rw [show ((40 : Nat) : Int) = 40 from rfl] at h3 h4 h5
 unfold cashbooklaw26_few cutT
 simp only [h1, h2, h4, h5, Option.bind_some]
 by_cases hl : t.f_L.length ≤ 2000
 ·have hl' : decide ((t.f_L.length : Int) ≤ 2000) = true := decide_eq_true (by omega)
  have hloop := few_loop (l := t.f_L.take 40) (by simp; omega)
  simp only [hl', if_true, h3, Option.bind_some, hl]
  rw [hloop]
  rfl
 ·have hl' : decide ((t.f_L.length : Int) ≤ 2000) = false := decide_eq_false (by omega)
  simp only [hl', Bool.false_eq_true, if_false, Option.bind_some, hl]
theorem cut_few {t : T_api_Till} (h : t.wf) : FewT (cutT t) := by
 obtain ⟨⟨⟨_, hc⟩, ⟨_, hr⟩⟩, ⟨hll, hp⟩, ⟨_, hh⟩, ⟨_, hm⟩⟩ := h
 refine ⟨⟨?_, ?_, ?_⟩, fun hl => ⟨?_, ?_, ?_⟩, ?_, ?_⟩
 ·simp [cutT]; omega
 ·simp [cutT]; omega
 ·intro x hx
  have := (hc x (List.mem_of_mem_take hx)).2.1
  have hm : maxLen ≤ 9223372036854775807 := by decide
  omega
 ·unfold cutT at hl ⊢
  by_cases h2 : t.f_L.length ≤ 2000
  ·simp only [h2, if_true, List.length_map, List.length_take]; omega
  ·rw [if_neg h2] at hl
   exact absurd hl h2
 ·intro p hpm
  unfold cutT at hl hpm
  by_cases h2 : t.f_L.length ≤ 2000
  ·simp only [h2, if_true] at hpm
   obtain ⟨q, hq, rfl⟩ := List.mem_map.1 hpm
   simp [cutP]; omega
  ·rw [if_neg h2] at hl
   exact absurd hl h2
 ·intro p hpm x hx
  unfold cutT at hl hpm
  by_cases h2 : t.f_L.length ≤ 2000
  ·simp only [h2, if_true] at hpm
   obtain ⟨q, hq, rfl⟩ := List.mem_map.1 hpm
   have := (hp q (List.mem_of_mem_take hq)).2.2.2.1.2 x (List.mem_of_mem_take hx)
   have h3 := this.2.2
   unfold inR at h3
   have e1 : IntKind.min .i64 = -9223372036854775808 := by decide
   have e2 : IntKind.max .i64 = 9223372036854775807 := by decide
   rw [e1, e2] at h3
   exact ⟨h3.1, by omega⟩
  ·rw [if_neg h2] at hl
   exact absurd hl h2
 ·simp [cutT]; omega
 ·simp [cutT]; omega
end Go.Av.G
end
section
set_option linter.unusedVariables false
set_option linter.unusedSimpArgs false
set_option maxRecDepth 4000
set_option maxHeartbeats 4000000
namespace Go.Av.G
open Go Go.Av Go.Proofs
theorem Pay_bad {t : T_api_Till} (hf : FewT t) (hr : ¬ RightT t) (acc now : Int) (m : T_api_Money) : avail_Pay t acc m now = some (false, 1) := by
 unfold avail_Pay
 rw [ARight_not hf hr]
 rfl
theorem Pay_why {t : T_api_Till} (hf : FewT t) (hr : RightT t) {acc now : Int} (hw : whyT t acc now ≠ 0) (m : T_api_Money) : avail_Pay t acc m now = some (false, whyT t acc now) := by
 obtain ⟨a, ha, _⟩ := ask_spec hf hr acc now
 rw [if_neg hw] at ha
 unfold avail_Pay
 rw [ARight_at hf hr]
 simp only [Option.bind_some, Bool.not_true, Bool.false_eq_true, if_false, ha, Option.isSome_some, if_true, avail_whyOf, Option.getD_some]
theorem Pay_at {t : T_api_Till} (hf : FewT t) (hr : RightT t) {acc now : Int} (hw : whyT t acc now = 0) (m : T_api_Money) : avail_Pay t acc m now =
  some (if m.f_Cur ≠ (recT t acc).f_Cur then (false, 12) else if ¬ (1 ≤ m.f_Minor ∧ m.f_Minor ≤ 1000000000000000) then (false, 1) else (decide (m.f_Minor ≤ freeT t acc now 0), 0)) := by
 obtain ⟨a, ha, hv⟩ := ask_spec hf hr acc now
 rw [if_pos hw] at ha
 obtain rfl := hv hw
 unfold avail_Pay
 rw [ARight_at hf hr]
 simp only [Option.bind_some, Bool.not_true, Bool.false_eq_true, if_false, ha, Option.isSome_none, in_int64_eq]
 by_cases hc : m.f_Cur = (recT t acc).f_Cur
 ·have hc' : (m.f_Cur != (recT t acc).f_Cur) = false := by simpa using hc
  rw [if_neg (not_not_intro hc)]
  simp only [hc', Bool.false_eq_true, if_false]
  by_cases hm : 1 ≤ m.f_Minor ∧ m.f_Minor ≤ 1000000000000000
  ·have hm' : (!(decide (m.f_Minor ≥ 1) && decide (m.f_Minor ≤ 1000000000000000))) = false := by simp [hm]
   rw [if_neg (not_not_intro hm)]
   simp only [hm', Bool.false_eq_true, if_false, free_eq hf hr hw, Option.bind_some]
  ·have hm' : (!(decide (m.f_Minor ≥ 1) && decide (m.f_Minor ≤ 1000000000000000))) = true := by
    rw [Bool.not_eq_true', Bool.eq_false_iff]
    intro h
    simp at h
    exact hm h
   rw [if_pos hm]
   simp only [hm', if_true]
 ·have hc' : (m.f_Cur != (recT t acc).f_Cur) = true := by simpa using hc
  rw [if_pos hc]
  simp only [hc', if_true]
end Go.Av.G
end
section
set_option linter.unusedVariables false
set_option linter.unusedSimpArgs false
set_option maxRecDepth 4000
set_option maxHeartbeats 4000000
namespace Go.Av.G
open Go Go.Av Go.Proofs
theorem refCustomer_eq (x : T_api_Customer) (hl : x.f_Name.length ≤ 9223372036854775807) : cashbookref18_Customer x = some (okC x) := by
 unfold cashbookref18_Customer
 rw [loopW_any (l := x.f_Name) (fun b => decide (b.toNat < 32) || decide (126 < b.toNat)) (o := Sum.inr false) (e := Sum.inl ()) hl]
 ·generalize hB : (x.f_Name.any fun b => decide (b.toNat < 32) || decide (126 < b.toNat)) = B
  cases B with
  | true => simp [okC, hB]
  | false =>
   simp only [okC, hB, Option.bind_some, Option.some.injEq, Bool.false_eq_true, if_false]
   rw [Bool.eq_iff_iff]
   simp
   omega
 ·intro i h
  simp only [decide_eq_true_eq, byO_at h, Option.bind_some, gdO_some]
  rw [if_pos (by omega)]
  generalize (x.f_Name[i]).toNat = v
  by_cases h1 : v < 32
  ·have h1' : (v : Int) < 32 := by omega
   simp [h1, h1']
  ·have h1' : ¬ (v : Int) < 32 := by omega
   by_cases h2 : 126 < v
   ·have h2' : 126 < (v : Int) := by omega
    simp [h1, h1', h2, h2']
   ·have h2' : ¬ 126 < (v : Int) := by omega
    simp [h1, h1', h2, h2']
 ·intro i h
  simp only [decide_eq_true_eq]
  rw [if_neg (by omega)]
theorem refRecord_eq (r : T_api_Record) : ((cashbookref18_Record r).bind fun a => (cashbookref18_Own r).bind fun b => some (a && b)) = some (okR r) := by
 simp only [cashbookref18_Record, cashbookref18_Own, cashbookref04_Right, gdO_and, Option.bind_some, okR]
 split
 ·rename_i h
  simp only [Option.bind_some, Option.some.injEq]
  rw [Bool.eq_iff_iff]
  simp at h ⊢
  omega
 ·rename_i h
  simp only [Option.bind_some, Option.some.injEq]
  rw [Bool.eq_iff_iff]
  simp at h ⊢
  omega
theorem placeOf_eq (l : List T_api_Customer) (n : Int) (hn : l.length < 4611686018427387904) : cashbookref18_PlaceOf l n = some (match fstIdx l (fun x => x.f_ID == n) with | some i => ((i : Nat) : Int) | none => -1) := by
 unfold cashbookref18_PlaceOf
 rw [loopL_idx (l := l) (fun x => x.f_ID == n) (o := fun i => (Sum.inr (i : Int) : Unit ⊕ Int)) (e := Sum.inl ()) hn]
 ·cases fstIdx l (fun x => x.f_ID == n) <;> rfl
 ·intro i h
  simp only [decide_eq_true_eq]
  rw [if_pos (by omega), rdO_at h]
  simp only [Option.bind_some]
  split <;> rfl
 ·intro i h
  simp only [decide_eq_true_eq]
  rw [if_neg (by omega)]
theorem placeR_eq (l : List T_api_Record) (n : Int) (hn : l.length < 4611686018427387904) : cashbookref18_Place l n = some (match fstIdx l (fun x => x.f_Acc == n) with | some i => ((i : Nat) : Int) | none => -1) := by
 unfold cashbookref18_Place
 rw [loopL_idx (l := l) (fun x => x.f_Acc == n) (o := fun i => (Sum.inr (i : Int) : Unit ⊕ Int)) (e := Sum.inl ()) hn]
 ·cases fstIdx l (fun x => x.f_Acc == n) <;> rfl
 ·intro i h
  simp only [decide_eq_true_eq]
  rw [if_pos (by omega), rdO_at h]
  simp only [Option.bind_some]
  split <;> rfl
 ·intro i h
  simp only [decide_eq_true_eq]
  rw [if_neg (by omega)]
theorem refRec_eqs (r : T_api_Record) : ∃ a b, cashbookref18_Record r = some a ∧ cashbookref18_Own r = some b ∧ okR r = (a && b) := by
 have h := refRecord_eq r
 cases ha : cashbookref18_Record r with
 | none => rw [ha] at h; cases h
 | some a =>
  cases hb : cashbookref18_Own r with
  | none => rw [ha, hb] at h; cases h
  | some b =>
   rw [ha, hb] at h
   simp only [Option.bind_some, Option.some.injEq] at h
   exact ⟨a, b, rfl, rfl, h.symm⟩
theorem find_neg {l : List T_api_Customer} {p : T_api_Customer → Bool} : decide ((match fstIdx l p with | some i => ((i : Nat) : Int) | none => -1) < 0) = !(l.any p) := by
 rw [← fst_neg]
 cases fstIdx l p with
 | some i => simp
 | none => rfl
theorem refRight_spec (c : T_api_Chart) (hc : c.f_Customers.length < 4611686018427387904) (hn : c.f_Records.length < 4611686018427387904) (hN : ∀ x ∈ c.f_Customers, x.f_Name.length ≤ 9223372036854775807) : ∃ b, cashbookref18_Right c = some b ∧ (b = true ↔ RightP c) := by
 unfold cashbookref18_Right
 rw [loopI_any0 (n := c.f_Customers.length) (q := fun i => ((c.f_Customers[i]?).any fun x => !okC x) || (decide (0 < i) && descends (fun x : T_api_Customer => x.f_ID) c.f_Customers i)) (o := (Sum.inr false : Unit ⊕ Bool)) (e := Sum.inl ()) hc]
 ·rw [loopI_any0 (n := c.f_Records.length) (q := fun i => ((c.f_Records[i]?).any (badR c)) || (decide (0 < i) && descends (fun x : T_api_Record => x.f_Acc) c.f_Records i)) (o := (Sum.inr false : Unit ⊕ Bool)) (e := Sum.inl ()) hn]
  ·by_cases h1 : (List.range' 0 c.f_Customers.length).any (fun i => ((c.f_Customers[i]?).any fun x => !okC x) || (decide (0 < i) && descends (fun x : T_api_Customer => x.f_ID) c.f_Customers i)) = true
   ·rw [if_pos h1]
    refine ⟨false, rfl, by simp, fun h => ?_⟩
    obtain ⟨i, hi, hq⟩ := List.any_eq_true.1 h1
    have hi' : i < c.f_Customers.length := by simpa using hi
    rw [(descends_rise.2 h.2.2.1) i hi', List.getElem?_eq_getElem hi', Bool.or_false] at hq
    have := h.2.2.2.2.1 _ (List.getElem_mem hi')
    simp [this] at hq
   ·rw [if_neg h1]
    simp only [Option.bind_some]
    have h1' := any_idx.1 (Bool.eq_false_iff.2 h1)
    have hR1 : Rise (fun x : T_api_Customer => x.f_ID) c.f_Customers := descends_rise.1 fun i hi => by have := h1' i hi; simp only [Bool.or_eq_false_iff] at this; exact this.2
    have hO1 : ∀ x ∈ c.f_Customers, okC x = true := by
     intro x hx
     obtain ⟨i, hi, rfl⟩ := List.getElem_of_mem hx
     have := h1' i hi
     rw [List.getElem?_eq_getElem hi] at this
     simp at this
     exact this.1
    by_cases h2 : (List.range' 0 c.f_Records.length).any (fun i => ((c.f_Records[i]?).any (badR c)) || (decide (0 < i) && descends (fun x : T_api_Record => x.f_Acc) c.f_Records i)) = true
    ·rw [if_pos h2]
     refine ⟨false, rfl, by simp, fun h => ?_⟩
     obtain ⟨i, hi, hq⟩ := List.any_eq_true.1 h2
     have hi' : i < c.f_Records.length := by simpa using hi
     rw [(descends_rise.2 h.2.2.2.1) i hi', List.getElem?_eq_getElem hi', Bool.or_false] at hq
     have := h.2.2.2.2.2 _ (List.getElem_mem hi')
     simp [this] at hq
    ·rw [if_neg h2]
     have h2' := any_idx.1 (Bool.eq_false_iff.2 h2)
     have hR2 : Rise (fun x : T_api_Record => x.f_Acc) c.f_Records := descends_rise.1 fun i hi => by have := h2' i hi; simp only [Bool.or_eq_false_iff] at this; exact this.2
     have hO2 : ∀ x ∈ c.f_Records, badR c x = false := by
      intro x hx
      obtain ⟨i, hi, rfl⟩ := List.getElem_of_mem hx
      have := h2' i hi
      rw [List.getElem?_eq_getElem hi] at this
      simp only [Option.any_some, Bool.or_eq_false_iff] at this
      exact this.1
     refine ⟨_, rfl, ?_⟩
     unfold RightP
     simp only [hR1, hR2, true_and]
     simp
     constructor
     ·rintro ⟨a, b⟩; exact ⟨by omega, by omega, hO1, hO2⟩
     ·rintro ⟨a, b, _⟩; exact ⟨by omega, by omega⟩
  ·intro i h
   obtain ⟨a, b, ea, eb, ek⟩ := refRec_eqs c.f_Records[i]
   simp only [decide_eq_true_eq]
   rw [if_pos (by omega), rdO_at h, List.getElem?_eq_getElem h]
   simp only [Option.bind_some, ea, eb, gdO_and, placeOf_eq _ _ hc, gdO_some]
   simp only [Option.any_some, badR, ← find_neg (l := c.f_Customers)]
   generalize (match fstIdx c.f_Customers (fun x => x.f_ID == (c.f_Records[i]).f_Customer) with | some i => ((i : Nat) : Int) | none => -1) = pl
   by_cases hk : okR c.f_Records[i] = true
   ·obtain ⟨rfl, rfl⟩ : a = true ∧ b = true := by rw [hk] at ek; simpa using ek.symm
    cases i with
    | zero =>
     by_cases h22 : (0 : Int) < (c.f_Records[0]).f_Customer <;> simp [hk, gdO, h22] <;> (try (split <;> simp_all))
    | succ i =>
     have e1 : IntKind.wrap .i64 (((i + 1 : Nat) : Int) - 1) = (i : Int) := by rw [wrap64 (by omega) (by omega)]; omega
     have e2 : decide (((i + 1 : Nat) : Int) > 0) = true := decide_eq_true (by omega)
     rw [e1, e2, rdO_at (by omega), descends_at (by omega) h]
     by_cases hd : (c.f_Records[i]).f_Acc ≥ (c.f_Records[i + 1]).f_Acc
     ·simp [hk, gdO, hd]
     ·by_cases h22 : 0 < (c.f_Records[i + 1]).f_Customer <;> simp [hk, gdO, hd, h22] <;> (try (split <;> simp_all))
   ·have hk' : okR c.f_Records[i] = false := by simpa using hk
    rw [hk'] at ek
    cases a <;> cases b <;> simp [hk', gdO] at ek ⊢
  ·intro i h
   simp only [decide_eq_true_eq]
   rw [if_neg (by omega)]
 ·intro i h
  simp only [decide_eq_true_eq]
  rw [if_pos (by omega), rdO_at h, List.getElem?_eq_getElem h]
  simp only [Option.bind_some, refCustomer_eq _ (hN _ (List.getElem_mem h)), Option.any_some]
  by_cases hk : okC c.f_Customers[i] = true
  ·cases i with
   | zero => simp [gdO, hk]
   | succ i =>
    have e1 : IntKind.wrap .i64 (((i + 1 : Nat) : Int) - 1) = (i : Int) := by rw [wrap64 (by omega) (by omega)]; omega
    have e2 : decide (((i + 1 : Nat) : Int) > 0) = true := decide_eq_true (by omega)
    rw [e1, e2, rdO_at (by omega), descends_at (by omega) h]
    by_cases hd : (c.f_Customers[i]).f_ID ≥ (c.f_Customers[i + 1]).f_ID <;> simp [hk, gdO, hd]
  ·have hk' : okC c.f_Customers[i] = false := by simpa using hk
   simp [gdO, hk']
 ·intro i h
  simp only [decide_eq_true_eq]
  rw [if_neg (by omega)]
theorem refRight_at {c : T_api_Chart} (hf : Fits c) (h : RightP c) : cashbookref18_Right c = some true := by
 obtain ⟨b, e, hb⟩ := refRight_spec c (by have := hf.1; omega) (by have := hf.2.1; omega) (fun x hx => by have := hf.2.2 x hx; omega)
 rw [e, hb.2 h]
theorem refRight_not {c : T_api_Chart} (hf : Fits c) (h : ¬ RightP c) : cashbookref18_Right c = some false := by
 obtain ⟨b, e, hb⟩ := refRight_spec c (by have := hf.1; omega) (by have := hf.2.1; omega) (fun x hx => by have := hf.2.2 x hx; omega)
 cases b with
 | true => exact absurd (hb.1 rfl) h
 | false => exact e
theorem refMoney_eq (m : T_api_Money) : cashbookref03_Right m = some (okM m) := by
 have hn : cashbookref03_Name m.f_Cur = some (if m.f_Cur = 0 then [69, 85, 82] else if m.f_Cur = 1 then [74, 80, 89] else if m.f_Cur = 2 then [66, 72, 68] else if m.f_Cur = 3 then [85, 83, 68] else []) := by
  simp only [cashbookref03_Name, beq_iff_eq]
  split
  ·rfl
  ·split
   ·rfl
   ·split
    ·rfl
    ·split <;> rfl
 simp only [cashbookref03_Right, hn, Option.bind_some, Option.some.injEq, okM]
 have : (!((if m.f_Cur = 0 then ([69, 85, 82] : List UInt8) else if m.f_Cur = 1 then [74, 80, 89] else if m.f_Cur = 2 then [66, 72, 68] else if m.f_Cur = 3 then [85, 83, 68] else []) == [])) = decide (0 ≤ m.f_Cur ∧ m.f_Cur < 4) := by
  by_cases h0 : m.f_Cur = 0
  ·simp [h0]
  ·by_cases h1 : m.f_Cur = 1
   ·simp [h1]
   ·by_cases h2 : m.f_Cur = 2
    ·simp [h2]
    ·by_cases h3 : m.f_Cur = 3
     ·simp [h3]
     ·simp [h0, h1, h2, h3]; omega
 rw [this, Bool.eq_iff_iff]
 simp
 omega
theorem refRight_eq (h : T_api_Hold) : cashbookref25_Right h = some (okH h) := by
 simp only [cashbookref25_Right, refMoney_eq, cashbookref04_Right, Option.bind_some, okH, okM]
 split
 ·rename_i hc
  simp only [Option.some.injEq]
  symm
  rw [decide_eq_false_iff_not]
  simp at hc
  omega
 ·rename_i hc
  simp only [Option.some.injEq]
  rw [Bool.eq_iff_iff]
  simp at hc ⊢
  omega
theorem refLive_eq (h : T_api_Hold) (now : Int) : cashbookref25_Live h now = some (liveH h now) := by
 simp only [cashbookref25_Live, refRight_eq, Option.bind_some, Option.some.injEq, liveH]
 rw [Bool.eq_iff_iff]
 simp [and_assoc]
theorem refCheck_eq (l : List T_api_Hold) (hn : l.length < 4611686018427387904) : cashbookref25_Check l = some (chkH l) := by
 unfold cashbookref25_Check
 rw [loopL_any (l := l) (fun x => !okH x) (o := (Sum.inr 1 : Unit ⊕ Int)) (e := Sum.inl ()) hn]
 ·unfold chkH
  cases l.any fun x => !okH x with
  | true => rfl
  | false =>
   simp only [Bool.false_eq_true, if_false, Option.bind_some]
   rw [loopI_any1 (n := l.length) (o := (Sum.inr 20 : Unit ⊕ Int)) (e := Sum.inl ()) (q := descends (fun x : T_api_Hold => x.f_ID) l) hn]
   ·unfold badI
    cases (List.range' 1 (l.length - 1)).any (descends (fun x : T_api_Hold => x.f_ID) l) with
    | true => rfl
    | false =>
     simp only [Bool.false_eq_true, if_false, Option.bind_some, decide_eq_true_eq]
     by_cases h : 200 < l.length
     ·rw [if_pos h, if_pos (by omega)]
     ·rw [if_neg h, if_neg (by omega)]
   ·intro i h0 h
    have e1 : IntKind.wrap .i64 ((i : Int) - 1) = ((i - 1 : Nat) : Int) := by rw [wrap64 (by omega) (by omega)]; omega
    simp only [decide_eq_true_eq, e1]
    rw [if_pos (by omega), rdO_at h, rdO_at (show i - 1 < l.length by omega), descends_at h0 h]
    simp only [Option.bind_some, decide_eq_true_eq, ge_iff_le]
    split <;> rfl
   ·intro i h
    simp only [decide_eq_true_eq]
    rw [if_neg (by omega)]
 ·intro i h
  simp only [decide_eq_true_eq]
  rw [if_pos (by omega), rdO_at h]
  simp only [Option.bind_some, refRight_eq]
  split <;> rfl
 ·intro i h
  simp only [decide_eq_true_eq]
  rw [if_neg (by omega)]
theorem refRest_eq (h : T_api_Hold) (now : Int) : cashbookref25_Rest h now = some (restH h now) := by
 simp only [cashbookref25_Rest, refLive_eq, Option.bind_some]
 unfold restH
 cases hl : liveH h now with
 | false => rfl
 | true =>
  have := okH_spec (live_ok hl)
  simp only [Bool.not_true, Bool.false_eq_true, if_false, if_true]
  rw [wrap64 (by omega) (by omega)]
theorem refsum_loop {l : List T_api_Hold} {acc cur now rank : Int} (hn : l.length ≤ 1000) : ∀ (t pre : List T_api_Hold) (n : Int), l = pre ++ t → 0 ≤ n → n + t.length * 1000000000000000 ≤ 4000000000000000000 →
  loopO (fun (qj6 : Int × Int) => match qj6 with
  | (n7, i8) => (
   if (decide (i8 < (l.length : Int))) = true then
    (rdO l i8).bind fun x9 =>
    (some (x9.f_Acc == acc)).bind fun c10 =>
    (gdO c10 (rdO l i8) (default : T_api_Hold)).bind fun x11 =>
    (some (c10 && (x11.f_Amount.f_Cur == cur))).bind fun c12 =>
    (gdO c12 (rdO l i8) (default : T_api_Hold)).bind fun x13 =>
    ((if (c12 && (decide (x13.f_Rank ≥ rank))) = true then
      (rdO l i8).bind fun x15 =>
      (cashbookref25_Rest x15 now).bind fun x16 =>
      some (IntKind.wrap .i64 (n7 + x16))
    else
     some n7) : Option Int).bind fun j14 =>
    some (.inl (j14, IntKind.wrap .i64 (i8 + 1)))
   else
    some (.inr n7) : Option ((Int × Int) ⊕ Int))) (n, (pre.length : Int)) = some (n + sumL t acc cur now rank) := by
 intro t
 induction t with
 | nil =>
  intro pre n hl _ _
  rw [loopO_out (o := n)]
  ·simp [sumL]
  ·have : decide ((pre.length : Int) < (l.length : Int)) = false := by rw [hl]; simp
   simp only [this, Bool.false_eq_true, if_false]
 | cons h t ih =>
  intro pre n hl h0 h1
  have hlen : l.length = pre.length + (t.length + 1) := by rw [hl]; simp
  simp only [List.length_cons] at h1
  have hr := restH_range h now
  have hw := wH_range acc cur now rank h
  have hd : decide ((pre.length : Int) < (l.length : Int)) = true := by simp; omega
  have hx : rdO l (pre.length : Int) = some h := by rw [hl]; exact rd_mid rfl
  have e1 : IntKind.wrap .i64 ((pre.length : Int) + 1) = (((pre ++ [h]).length : Nat) : Int) := wN (by simp) (by simp; omega)
  have e : sumL (h :: t) acc cur now rank = wH acc cur now rank h + sumL t acc cur now rank := by simp [sumL]
  have := ih (pre ++ [h]) (n + wH acc cur now rank h) (by simp [hl]) (by omega) (by omega)
  rw [loopO_on (s' := (n + wH acc cur now rank h, (((pre ++ [h]).length : Nat) : Int))), this, e, Int.add_assoc]
  have ew : IntKind.wrap .i64 (n + restH h now) = n + restH h now := wrap64 (by omega) (by omega)
  simp only [hd, if_true, hx, Option.bind_some, gdO_some, refRest_eq, ew, e1]
  unfold wH
  by_cases ha : h.f_Acc = acc
  ·have ba : (h.f_Acc == acc) = true := by simpa using ha
   simp only [ba, cond_true, Bool.true_and]
   by_cases hc : h.f_Amount.f_Cur = cur
   ·have bc : (h.f_Amount.f_Cur == cur) = true := by simpa using hc
    simp only [bc, cond_true, Bool.true_and, decide_eq_true_eq]
    by_cases hk : rank ≤ h.f_Rank
    ·rw [if_pos hk, if_pos ⟨ha, hc, hk⟩]
     rfl
    ·rw [if_neg hk, if_neg (fun q => hk q.2.2)]
     simp
   ·have bc : (h.f_Amount.f_Cur == cur) = false := by simpa using hc
    simp only [bc, cond_false, Bool.false_and, Bool.false_eq_true, if_false]
    rw [if_neg (fun q => hc q.2.1)]
    simp
  ·have ba : (h.f_Acc == acc) = false := by simpa using ha
   simp only [ba, cond_false, Bool.false_and, Bool.false_eq_true, if_false]
   rw [if_neg (fun q => ha q.1)]
   simp
theorem refsum_eq {l : List T_api_Hold} (hn : l.length ≤ 1000) (acc cur now rank : Int) : cashbookref25_Sum l acc cur now rank = some (sumL l acc cur now rank) := by
 unfold cashbookref25_Sum
 have := refsum_loop (l := l) (acc := acc) (cur := cur) (now := now) (rank := rank) hn l [] 0 rfl (by omega) (by omega)
 simp only [List.length_nil, Option.bind_some] at this ⊢
 have e0 : ((0 : Nat) : Int) = 0 := rfl
 rw [e0] at this
 rw [this, Int.zero_add]
 rfl
end Go.Av.G
end
