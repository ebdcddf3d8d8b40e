/- What functions of the program compute, in plain words, and that they do: printed by a program of ours. -/
import Derived.Test.YtkcilagjhieapaaUd0
set_option linter.unusedVariables false
set_option linter.unusedSimpArgs false
set_option maxRecDepth 100000
set_option maxHeartbeats 8000000
namespace Go.Av.G
open Go Go.Av Go.Proofs
def pcashbooklaw18_ChartCustomersr0 : List GOp := [⟨(some 1), none, .box (.tmp 0)⟩, ⟨(some 2), none, .mov (.cst (.bool false))⟩]
def pcashbooklaw18_ChartCustomersr1 : List GOp := [⟨(some 18), none, .load true 2 (.tmp 1)⟩, ⟨(some 19), none, .call 0 0 (.cst (.fn 12)) [(.tmp 18)] [] []⟩, ⟨none, none, .store 2 (.tmp 1) (.tmp 19)⟩]
def pcashbooklaw18_ChartCustomersr2 : List GOp := [⟨(some 20), none, .load true 2 (.tmp 1)⟩, ⟨(some 21), none, .call 0 0 (.cst (.fn 16)) [(.tmp 20)] [] []⟩, ⟨(some 22), none, .un .not (.tmp 21)⟩]
def pcashbooklaw18_ChartCustomersr3 : List GOp := [⟨(some 24), none, .load true 2 (.tmp 1)⟩, ⟨(some 25), none, .call 0 0 (.cst (.fn 31)) [(.tmp 24), (.cst (.int .i64 1))] [] []⟩, ⟨(some 23), none, .mov (.tmp 25)⟩, ⟨(some 26), none, .ext 0 (.tmp 23)⟩, ⟨(some 27), none, .ext 1 (.tmp 23)⟩, ⟨(some 28), none, .ext 2 (.tmp 23)⟩, ⟨(some 3), none, .alloc [.pv (.int .i64 0), .pv (.str []), .pv (.int .i64 0)]⟩, ⟨none, none, .store 3 (.tmp 3) (.tmp 26)⟩, ⟨(some 4), none, .mov (.tmp 27)⟩, ⟨(some 5), none, .mov (.tmp 28)⟩]
def pcashbooklaw18_ChartCustomersr4 : List GOp := [⟨(some 29), none, .call 0 0 (.cst (.fn 18)) [] [] []⟩, ⟨(some 30), none, .mov (.tmp 29)⟩, ⟨(some 31), (some (30, true)), .mov (.tmp 5)⟩, ⟨(some 32), (some (30, true)), .bin false .eql (.tmp 31) (.cst (.int .i64 1))⟩, ⟨(some 33), none, .pick (.tmp 30) (.tmp 32) (.cst (.bool false))⟩, ⟨(some 34), none, .mov (.tmp 33)⟩, ⟨(some 35), (some (34, true)), .mov (.tmp 4)⟩, ⟨(some 36), (some (34, true)), .len false (.tmp 35)⟩, ⟨(some 37), (some (34, true)), .bin false .eql (.tmp 36) (.cst (.int .i64 0))⟩, ⟨(some 38), none, .pick (.tmp 34) (.tmp 37) (.cst (.bool false))⟩, ⟨(some 2), none, .mov (.tmp 38)⟩]
def pcashbooklaw18_ChartCustomersr5 : List GOp := [⟨(some 39), none, .mkmap (.i .i64)⟩, ⟨(some 6), none, .mov (.tmp 39)⟩]
def pcashbooklaw18_ChartCustomersr6 : List GOp := [⟨(some 40), none, .fld 0 (.tmp 1)⟩, ⟨(some 41), none, .load false 1 (.tmp 40)⟩, ⟨(some 42), none, .len false (.tmp 41)⟩, ⟨(some 43), none, .mov (.cst (.int .i64 0))⟩]
def pcashbooklaw18_ChartCustomersr7 : List GOp := [⟨(some 44), none, .bin false .lss (.tmp 43) (.tmp 42)⟩]
def pcashbooklaw18_ChartCustomersr8 : List GOp := [⟨(some 45), none, .idx 3 (.tmp 41) (.tmp 43)⟩, ⟨(some 46), none, .load true 3 (.tmp 45)⟩, ⟨(some 8), none, .alloc [.pv (.int .i64 0), .pv (.str []), .pv (.int .i64 0)]⟩, ⟨none, none, .store 3 (.tmp 8) (.tmp 46)⟩]
def pcashbooklaw18_ChartCustomersr9 : List GOp := [⟨(some 48), none, .load true 2 (.tmp 1)⟩, ⟨(some 49), none, .fld 0 (.tmp 8)⟩, ⟨(some 50), none, .load false 1 (.tmp 49)⟩, ⟨(some 51), none, .call 0 0 (.cst (.fn 31)) [(.tmp 48), (.tmp 50)] [] []⟩, ⟨(some 47), none, .mov (.tmp 51)⟩, ⟨(some 52), none, .ext 0 (.tmp 47)⟩, ⟨(some 53), none, .ext 1 (.tmp 47)⟩, ⟨(some 54), none, .ext 2 (.tmp 47)⟩, ⟨(some 9), none, .alloc [.pv (.int .i64 0), .pv (.str []), .pv (.int .i64 0)]⟩, ⟨none, none, .store 3 (.tmp 9) (.tmp 52)⟩, ⟨(some 10), none, .mov (.tmp 53)⟩, ⟨(some 11), none, .mov (.tmp 54)⟩]
def pcashbooklaw18_ChartCustomersr10 : List GOp := [⟨(some 55), none, .mov (.tmp 11)⟩, ⟨(some 56), none, .bin false .neq (.tmp 55) (.cst (.int .i64 0))⟩, ⟨(some 57), none, .mov (.tmp 56)⟩, ⟨(some 58), (some (57, false)), .load true 3 (.tmp 9)⟩, ⟨(some 59), (some (57, false)), .load true 3 (.tmp 8)⟩, ⟨(some 60), (some (57, false)), .eqs true [.i, .s, .i] (.tmp 58) (.tmp 59)⟩, ⟨(some 61), none, .pick (.tmp 57) (.cst (.bool true)) (.tmp 60)⟩]
def pcashbooklaw18_ChartCustomersr11 : List GOp := [⟨(some 2), none, .mov (.cst (.bool false))⟩]
def pcashbooklaw18_ChartCustomersr12 : List GOp := [⟨(some 62), none, .mov (.tmp 10)⟩, ⟨(some 63), none, .len false (.tmp 62)⟩, ⟨(some 64), none, .mov (.cst (.int .i64 0))⟩]
def pcashbooklaw18_ChartCustomersr13 : List GOp := [⟨(some 65), none, .bin false .lss (.tmp 64) (.tmp 63)⟩]
def pcashbooklaw18_ChartCustomersr14 : List GOp := [⟨(some 66), none, .mov (.tmp 64)⟩, ⟨(some 67), none, .idx 1 (.tmp 62) (.tmp 64)⟩, ⟨(some 68), none, .load false 1 (.tmp 67)⟩, ⟨(some 12), none, .mov (.tmp 66)⟩, ⟨(some 13), none, .mov (.tmp 68)⟩]
def pcashbooklaw18_ChartCustomersr15 : List GOp := [⟨(some 69), none, .mov (.tmp 6)⟩, ⟨(some 70), none, .mov (.tmp 13)⟩, ⟨(some 71), none, .mlook (.i .i64) false (.int .i64 0) (.tmp 69) (.tmp 70)⟩, ⟨(some 72), none, .bin false .add (.tmp 71) (.cst (.int .i64 1))⟩, ⟨none, none, .mset (.i .i64) (.tmp 69) (.tmp 70) (.tmp 72)⟩]
def pcashbooklaw18_ChartCustomersr16 : List GOp := [⟨(some 74), none, .load true 2 (.tmp 1)⟩, ⟨(some 75), none, .mov (.tmp 13)⟩, ⟨(some 76), none, .call 0 0 (.cst (.fn 29)) [(.tmp 74), (.tmp 75)] [] []⟩, ⟨(some 73), none, .mov (.tmp 76)⟩, ⟨(some 77), none, .ext 0 (.tmp 73)⟩, ⟨(some 78), none, .ext 1 (.tmp 73)⟩, ⟨(some 14), none, .alloc [.pv (.int .i64 0), .pv (.int .i64 0), .pv (.int .i64 0), .pv (.int .i64 0), .pv (.int .i64 0), .pv (.int .i64 0), .pv (.int .i32 0), .pv (.int .i32 0)]⟩, ⟨none, none, .store 8 (.tmp 14) (.tmp 77)⟩, ⟨(some 15), none, .mov (.tmp 78)⟩]
def pcashbooklaw18_ChartCustomersr17 : List GOp := [⟨(some 79), none, .mov (.tmp 15)⟩, ⟨(some 80), none, .bin false .neq (.tmp 79) (.cst (.int .i64 0))⟩, ⟨(some 81), none, .mov (.tmp 80)⟩, ⟨(some 82), (some (81, false)), .fld 3 (.tmp 14)⟩, ⟨(some 83), (some (81, false)), .load false 1 (.tmp 82)⟩, ⟨(some 84), (some (81, false)), .fld 0 (.tmp 8)⟩, ⟨(some 85), (some (81, false)), .load false 1 (.tmp 84)⟩, ⟨(some 86), (some (81, false)), .bin false .neq (.tmp 83) (.tmp 85)⟩, ⟨(some 87), none, .pick (.tmp 81) (.cst (.bool true)) (.tmp 86)⟩, ⟨(some 88), none, .mov (.tmp 87)⟩, ⟨(some 89), (some (88, false)), .mov (.tmp 12)⟩, ⟨(some 90), (some (88, false)), .bin false .gtr (.tmp 89) (.cst (.int .i64 0))⟩, ⟨(some 91), (some (88, false)), .mov (.tmp 90)⟩, ⟨(some 92), (some (91, true)), .mov (.tmp 10)⟩, ⟨(some 93), (some (91, true)), .mov (.tmp 12)⟩, ⟨(some 94), (some (91, true)), .bin false .sub (.tmp 93) (.cst (.int .i64 1))⟩, ⟨(some 95), (some (91, true)), .idx 1 (.tmp 92) (.tmp 94)⟩, ⟨(some 96), (some (91, true)), .load false 1 (.tmp 95)⟩, ⟨(some 97), (some (91, true)), .mov (.tmp 13)⟩, ⟨(some 98), (some (91, true)), .bin false .geq (.tmp 96) (.tmp 97)⟩, ⟨(some 99), (some (88, false)), .pick (.tmp 91) (.tmp 98) (.cst (.bool false))⟩, ⟨(some 100), none, .pick (.tmp 88) (.cst (.bool true)) (.tmp 99)⟩]
def pcashbooklaw18_ChartCustomersr18 : List GOp := [⟨(some 2), none, .mov (.cst (.bool false))⟩]
def pcashbooklaw18_ChartCustomersr19 : List GOp := [⟨(some 101), none, .bin false .add (.tmp 64) (.cst (.int .i64 1))⟩, ⟨(some 64), none, .mov (.tmp 101)⟩]
def pcashbooklaw18_ChartCustomersl20 : AC := (.keep [] [(1, false), (6, false), (8, false), (10, false), (41, false), (42, false), (43, false), (62, false), (63, false), (64, false)] [(.loc 1 0, false), (.loc 39 0, false), (.loc 8 0, false)] [.loc 14 0, .loc 9 0] [] (.seq (.ops pcashbooklaw18_ChartCustomersr13) (.seq (.cond (.tmp 65) .skip (.exit 2)) (.seq (.pass 3 (.seq (.ops pcashbooklaw18_ChartCustomersr14) (.seq (.ops pcashbooklaw18_ChartCustomersr15) (.seq (.ops pcashbooklaw18_ChartCustomersr16) (.seq (.ops pcashbooklaw18_ChartCustomersr17) (.cond (.tmp 100) (.seq (.ops pcashbooklaw18_ChartCustomersr18) (.keep [] [(2, false)] [] [.loc 1 0, .loc 14 0, .loc 17 0, .loc 3 0, .loc 39 0, .loc 8 0, .loc 9 0] [] .ret)) .skip)))))) (.ops pcashbooklaw18_ChartCustomersr19)))))
def pcashbooklaw18_ChartCustomersr21 : List GOp := [⟨(some 102), none, .bin false .add (.tmp 43) (.cst (.int .i64 1))⟩, ⟨(some 43), none, .mov (.tmp 102)⟩]
def pcashbooklaw18_ChartCustomersl22 : AC := (.keep [] [(1, false), (6, false), (41, false), (42, false), (43, false)] [(.loc 1 0, false), (.loc 39 0, false)] [] [] (.seq (.ops pcashbooklaw18_ChartCustomersr7) (.seq (.cond (.tmp 44) .skip (.exit 0)) (.seq (.pass 1 (.seq (.ops pcashbooklaw18_ChartCustomersr8) (.seq (.ops pcashbooklaw18_ChartCustomersr9) (.seq (.seq (.ops pcashbooklaw18_ChartCustomersr10) (.cond (.tmp 61) (.seq (.ops pcashbooklaw18_ChartCustomersr11) (.keep [] [(2, false)] [] [.loc 1 0, .loc 14 0, .loc 17 0, .loc 3 0, .loc 39 0, .loc 8 0, .loc 9 0] [] .ret)) .skip)) (.seq (.ops pcashbooklaw18_ChartCustomersr12) (.block 2 (.loop [1, 6, 8, 10, 41, 42, 43, 62, 63, 64] [] pcashbooklaw18_ChartCustomersl20))))))) (.keep [] [(1, false), (6, false), (41, false), (42, false), (43, false)] [(.loc 1 0, false), (.loc 39 0, false)] [.loc 8 0, .loc 9 0] [] (.ops pcashbooklaw18_ChartCustomersr21))))))
def pcashbooklaw18_ChartCustomersr23 : List GOp := [⟨(some 103), none, .fld 1 (.tmp 1)⟩, ⟨(some 104), none, .load false 1 (.tmp 103)⟩, ⟨(some 105), none, .len false (.tmp 104)⟩, ⟨(some 106), none, .mov (.cst (.int .i64 0))⟩]
def pcashbooklaw18_ChartCustomersr24 : List GOp := [⟨(some 107), none, .bin false .lss (.tmp 106) (.tmp 105)⟩]
def pcashbooklaw18_ChartCustomersr25 : List GOp := [⟨(some 108), none, .idx 8 (.tmp 104) (.tmp 106)⟩, ⟨(some 109), none, .load true 8 (.tmp 108)⟩, ⟨(some 17), none, .alloc [.pv (.int .i64 0), .pv (.int .i64 0), .pv (.int .i64 0), .pv (.int .i64 0), .pv (.int .i64 0), .pv (.int .i64 0), .pv (.int .i32 0), .pv (.int .i32 0)]⟩, ⟨none, none, .store 8 (.tmp 17) (.tmp 109)⟩]
def pcashbooklaw18_ChartCustomersr26 : List GOp := [⟨(some 110), none, .mov (.tmp 6)⟩, ⟨(some 111), none, .fld 0 (.tmp 17)⟩, ⟨(some 112), none, .load false 1 (.tmp 111)⟩, ⟨(some 113), none, .mlook (.i .i64) false (.int .i64 0) (.tmp 110) (.tmp 112)⟩, ⟨(some 114), none, .bin false .eql (.tmp 113) (.cst (.int .i64 1))⟩, ⟨(some 115), none, .fld 3 (.tmp 17)⟩, ⟨(some 116), none, .load false 1 (.tmp 115)⟩, ⟨(some 117), none, .bin false .gtr (.tmp 116) (.cst (.int .i64 0))⟩, ⟨(some 118), none, .bin true .neq (.tmp 114) (.tmp 117)⟩, ⟨(some 119), none, .mov (.tmp 118)⟩, ⟨(some 120), (some (119, false)), .mov (.tmp 6)⟩, ⟨(some 121), (some (119, false)), .fld 0 (.tmp 17)⟩, ⟨(some 122), (some (119, false)), .load false 1 (.tmp 121)⟩, ⟨(some 123), (some (119, false)), .mlook (.i .i64) false (.int .i64 0) (.tmp 120) (.tmp 122)⟩, ⟨(some 124), (some (119, false)), .bin false .gtr (.tmp 123) (.cst (.int .i64 1))⟩, ⟨(some 125), none, .pick (.tmp 119) (.cst (.bool true)) (.tmp 124)⟩]
def pcashbooklaw18_ChartCustomersr27 : List GOp := [⟨(some 2), none, .mov (.cst (.bool false))⟩]
def pcashbooklaw18_ChartCustomersr28 : List GOp := [⟨(some 126), none, .bin false .add (.tmp 106) (.cst (.int .i64 1))⟩, ⟨(some 106), none, .mov (.tmp 126)⟩]
def pcashbooklaw18_ChartCustomersl29 : AC := (.keep [] [(6, false), (104, false), (105, false), (106, false)] [(.loc 39 0, false)] [.loc 1 0, .loc 17 0] [] (.seq (.ops pcashbooklaw18_ChartCustomersr24) (.seq (.cond (.tmp 107) .skip (.exit 4)) (.seq (.pass 5 (.seq (.ops pcashbooklaw18_ChartCustomersr25) (.seq (.ops pcashbooklaw18_ChartCustomersr26) (.cond (.tmp 125) (.seq (.ops pcashbooklaw18_ChartCustomersr27) (.keep [] [(2, false)] [] [.loc 1 0, .loc 14 0, .loc 17 0, .loc 3 0, .loc 39 0, .loc 8 0, .loc 9 0] [] .ret)) .skip)))) (.ops pcashbooklaw18_ChartCustomersr28)))))
def pcashbooklaw18_ChartCustomersr30 : List GOp := [⟨(some 127), none, .call 0 0 (.cst (.fn 18)) [] [] []⟩, ⟨(some 2), none, .mov (.tmp 127)⟩]
def pcashbooklaw18_ChartCustomersb : AC := (.seq (.ops pcashbooklaw18_ChartCustomersr0) (.seq (.ops pcashbooklaw18_ChartCustomersr1) (.seq (.seq (.ops pcashbooklaw18_ChartCustomersr2) (.cond (.tmp 22) (.seq (.ops pcashbooklaw18_ChartCustomersr3) (.seq (.ops pcashbooklaw18_ChartCustomersr4) (.keep [] [(2, false)] [] [.loc 1 0, .loc 14 0, .loc 17 0, .loc 3 0, .loc 39 0, .loc 8 0, .loc 9 0] [] .ret))) .skip)) (.seq (.ops pcashbooklaw18_ChartCustomersr5) (.seq (.seq (.ops pcashbooklaw18_ChartCustomersr6) (.block 0 (.loop [1, 6, 41, 42, 43] [] pcashbooklaw18_ChartCustomersl22))) (.seq (.seq (.keep [] [(1, false), (6, false)] [(.loc 1 0, false), (.loc 39 0, false)] [] [] (.ops pcashbooklaw18_ChartCustomersr23)) (.block 4 (.loop [6, 104, 105, 106] [] pcashbooklaw18_ChartCustomersl29))) (.seq (.keep [] [] [] [.loc 1 0, .loc 39 0] [] (.ops pcashbooklaw18_ChartCustomersr30)) (.keep [] [(2, false)] [] [.loc 1 0, .loc 14 0, .loc 17 0, .loc 3 0, .loc 39 0, .loc 8 0, .loc 9 0] [] .ret))))))))
def pcashbooklaw18_ChartCustomers : Fd := ⟨1, [.tmp 2], [], pcashbooklaw18_ChartCustomersb⟩
theorem pcashbooklaw18_ChartCustomers_ag : agreeF Try.prog Try.f5 pcashbooklaw18_ChartCustomers = true := by kernel_rfl
theorem cashbooklaw18_ChartCustomers_ok {c1 : T_api_Chart} {r : Bool} (h : cashbooklaw18_ChartCustomers c1 = some r) : Contract Try.prog 5 [.pv (T_api_Chart.pv c1)] [] ⟨.pv (.bool r), [], []⟩ := by
  refine contract_fin hm Try.func5 pcashbooklaw18_ChartCustomers_ag (by kernel_rfl) ?_
  unfold cashbooklaw18_ChartCustomers at h
  refine W.seqOps (RunR.all (by kernel_rfl)) ?_
  replace h := bindS h
  obtain ⟨x2, hx2, h⟩ := h
  refine W.seqOps (RunR.stat 1 (by kernel_rfl) (RunR.cons (tab_cons (on := true) (fun _ => cashbooklaw18_few_ok hx2) tab_nil) (Step.call0 (g := 12) (caps := []) (v := .pv (T_api_Chart.pv x2)) (by kernel_rfl) (by kernel_rfl) (by kernel_rfl) (tab_hit (by kernel_rfl)) (by kernel_rfl)) (RunR.all (by kernel_rfl)))) ?_
  refine W.assoc ?_
  replace h := bindS h
  obtain ⟨x3, hx3, h⟩ := h
  refine W.seqOps (RunR.stat 1 (by kernel_rfl) (RunR.cons (tab_cons (on := true) (fun _ => chart_Right_ok hx3) tab_nil) (Step.call0 (g := 16) (caps := []) (v := .pv (.bool x3)) (by kernel_rfl) (by kernel_rfl) (by kernel_rfl) (tab_hit (by kernel_rfl)) (by kernel_rfl)) (RunR.all (by kernel_rfl)))) ?_
  refine W.seqCond (t := !x3) (by kernel_rfl) h (fun hc h' => ?_) (fun hc h' => ?_)
  · replace h := h'
    refine W.assoc ?_
    replace h := bindS h
    obtain ⟨x4, hx4, h⟩ := h
    refine W.seqOps (RunR.stat 1 (by kernel_rfl) (RunR.cons (tab_cons (on := true) (fun _ => chart_Who_ok hx4) tab_nil) (Step.call0 (g := 31) (caps := []) (v := .tup [.pv (T_api_Customer.pv x4.1), .pv (.slice (List.map (eInt .i64) x4.2.1)), .pv (.int .i64 x4.2.2)]) (by kernel_rfl) (by kernel_rfl) (by kernel_rfl) (tab_hit (by kernel_rfl)) (by kernel_rfl)) (RunR.all (by kernel_rfl)))) ?_
    refine W.assoc ?_
    replace h := bindS h
    obtain ⟨x5, hx5, h⟩ := h
    replace h := bindS h
    obtain ⟨c6, hc6, h⟩ := h
    refine W.seqOps (RunR.cons (tab_cons (on := true) (fun _ => cashbooklaw18_alive_ok hx5) tab_nil) (Step.call0 (g := 18) (caps := []) (v := .pv (.bool x5)) (by kernel_rfl) (by kernel_rfl) (by kernel_rfl) (tab_hit (by kernel_rfl)) (by kernel_rfl)) (RunR.stat 1 (by kernel_rfl) (RunR.puts 3 [(33, .pv (.bool (x5 && (x4.2.2 == 1)))), (32, (bif x5 then (.pv (.bool (x4.2.2 == 1))) else (.tup []))), (31, (bif x5 then (.pv (.int .i64 x4.2.2)) else (.tup [])))] (by cases x5 <;> kernel_rfl) (RunR.dyn (Step.name (f := eBool) (e := (x5 && (x4.2.2 == 1))) (c := c6) (by kernel_rfl) hc6) (RunR.puts 1 [(35, (bif c6 then (.pv (.slice (List.map (eInt .i64) x4.2.1))) else (.tup [])))] (by cases c6 <;> kernel_rfl) (RunR.dyn (Step.gdG c6 (by kernel_rfl) (by
          cases c6
          · exact .inl ⟨by kernel_rfl, by kernel_rfl⟩
          · exact .inr ⟨by kernel_rfl, by kernel_rfl, Step.lenT (f := (eInt .i64)) (l := x4.2.1) (by kernel_rfl)⟩)) (RunR.puts 2 [(38, .pv (.bool (c6 && ((x4.2.1.length : Int) == 0)))), (37, (bif c6 then (.pv (.bool ((x4.2.1.length : Int) == 0))) else (.tup [])))] (by cases c6 <;> kernel_rfl) (RunR.all (by kernel_rfl))))))))) ?_
    refine W.seqKeep rfl ?_
    cases h
    exact W.seqRet ((fin_ret (by kernel_rfl)))
  · replace h := h'
    refine W.seqSkip ?_
    refine W.seqOps (RunR.all (by kernel_rfl)) ?_
    refine W.assoc ?_
    refine W.seqOps (RunR.stat 2 (by kernel_rfl) (RunR.dyn (Step.lenT (f := T_api_Customer.pv) (l := x2.f_Customers) (by kernel_rfl)) (RunR.all (by kernel_rfl)))) ?_
    replace h := bindS h
    obtain ⟨j7, hj7, h⟩ := h
    refine W.joinOut (j := j7) (o := r) (fun p σ => σ.tidy [] [(1, false), (6, false)] [(.loc 1 0, false), (.loc 39 0, false)] [] [] = ⟨[(1, .ptr (.loc 1 0) 0), (6, .mp (.loc 39 0))], [(.loc 1 0, .box [.pv (.slice (List.map T_api_Customer.pv x2.f_Customers)), .pv (.slice (List.map T_api_Record.pv x2.f_Records))]), (.loc 39 0, .map (.i .i64) (List.map (eEnt (eInt .i64) (eInt .i64)) p))]⟩) ?_ (fun m23 σj7 hp hsj7 => ?_) (fun p hp => ?_)
    · refine W.blockLoopO (fun q σ => ((σ.forget [1, 6, 41, 42, 43]).killAll []).tidy [] [(1, false), (6, false), (41, false), (42, false), (43, false)] [(.loc 1 0, false), (.loc 39 0, false)] [] [] = ⟨[(1, .ptr (.loc 1 0) 0), (6, .mp (.loc 39 0)), (41, .pv (.slice (List.map T_api_Customer.pv x2.f_Customers))), (42, .pv (.int .i64 (x2.f_Customers.length : Int))), (43, .pv (.int .i64 q.1))], [(.loc 1 0, .box [.pv (.slice (List.map T_api_Customer.pv x2.f_Customers)), .pv (.slice (List.map T_api_Record.pv x2.f_Records))]), (.loc 39 0, .map (.i .i64) (List.map (eEnt (eInt .i64) (eInt .i64)) q.2))]⟩) hj7 ?_ ?_
      · exact (by (show _ = _); kernel_rfl)
      · intro q σj7 oj7 hJj7 h
        obtain ⟨x8, m9⟩ := q
        refine W.keep hJj7 ?_
        refine W.seqOps (RunR.all (by kernel_rfl)) ?_
        refine W.seqCond (t := decide (x8 < (x2.f_Customers.length : Int))) (by kernel_rfl) h (fun hc h' => ?_) (fun hc h' => ?_)
        · replace h := h'
          refine W.seqSkip ?_
          refine W.seqPass ?_
          refine W.assoc ?_
          replace h := bindS h
          obtain ⟨x10, hx10, h⟩ := h
          refine W.seqOps (RunR.dyn (Step.idxT (f := T_api_Customer.pv) (l := x2.f_Customers) (n := x8) (e := x10) (k := .i64) (by kernel_rfl) (by kernel_rfl) hx10 (by kernel_rfl)) (RunR.all (by kernel_rfl))) ?_
          refine W.assoc ?_
          replace h := bindS h
          obtain ⟨x11, hx11, h⟩ := h
          refine W.seqOps (RunR.stat 3 (by kernel_rfl) (RunR.cons (tab_cons (on := true) (fun _ => chart_Who_ok hx11) tab_nil) (Step.call0 (g := 31) (caps := []) (v := .tup [.pv (T_api_Customer.pv x11.1), .pv (.slice (List.map (eInt .i64) x11.2.1)), .pv (.int .i64 x11.2.2)]) (by kernel_rfl) (by kernel_rfl) (by kernel_rfl) (tab_hit (by kernel_rfl)) (by kernel_rfl)) (RunR.all (by kernel_rfl)))) ?_
          refine W.assoc ?_
          refine W.assoc ?_
          replace h := bindS h
          obtain ⟨c12, hc12, h⟩ := h
          refine W.seqOps (RunR.stat 2 (by kernel_rfl) (RunR.dyn (Step.name (f := eBool) (e := (x11.2.2 != 0)) (c := c12) (by kernel_rfl) hc12) (RunR.puts 4 [(61, .pv (.bool (c12 || (!(T_api_Customer.same x11.1 x10))))), (60, (bif !c12 then (.pv (.bool (!(T_api_Customer.same x11.1 x10)))) else (.tup []))), (59, (bif !c12 then (.pv (T_api_Customer.pv x10)) else (.tup []))), (58, (bif !c12 then (.pv (T_api_Customer.pv x11.1)) else (.tup [])))] (by cases c12 <;> kernel_rfl) ((.nil _))))) ?_
          refine W.seqCond (t := (c12 || (!(T_api_Customer.same x11.1 x10)))) (by kernel_rfl) h (fun hc h' => ?_) (fun hc h' => ?_)
          · replace h := h'
            refine W.assoc ?_
            refine W.seqOps (RunR.all (by kernel_rfl)) ?_
            refine W.seqKeep rfl ?_
            cases h
            exact W.seqRet ((outw_out ret_ne (bout_o ret_ne ret_ne' (fun e => by subst e; exact (fin_ret (by kernel_rfl))))))
          · replace h := h'
            refine W.seqSkip ?_
            refine W.assoc ?_
            refine W.seqOps (RunR.stat 1 (by kernel_rfl) (RunR.dyn (Step.lenT (f := (eInt .i64)) (l := x11.2.1) (by kernel_rfl)) (RunR.all (by kernel_rfl)))) ?_
            replace h := bindS h
            obtain ⟨j13, hj13, h⟩ := h
            refine W.joinOut (j := j13) (o := oj7) (fun p σ => σ.tidy [] [(1, false), (6, false), (41, false), (42, false), (43, false)] [(.loc 1 0, false), (.loc 39 0, false)] [.loc 8 0, .loc 9 0] [] = ⟨[(1, .ptr (.loc 1 0) 0), (6, .mp (.loc 39 0)), (41, .pv (.slice (List.map T_api_Customer.pv x2.f_Customers))), (42, .pv (.int .i64 (x2.f_Customers.length : Int))), (43, .pv (.int .i64 x8))], [(.loc 1 0, .box [.pv (.slice (List.map T_api_Customer.pv x2.f_Customers)), .pv (.slice (List.map T_api_Record.pv x2.f_Records))]), (.loc 39 0, .map (.i .i64) (List.map (eEnt (eInt .i64) (eInt .i64)) p))]⟩) ?_ (fun m22 σj13 hp hsj13 => ?_) (fun p hp => ?_)
            · refine W.blockLoopO (fun q σ => ((σ.forget [1, 6, 8, 10, 41, 42, 43, 62, 63, 64]).killAll []).tidy [] [(1, false), (6, false), (8, false), (10, false), (41, false), (42, false), (43, false), (62, false), (63, false), (64, false)] [(.loc 1 0, false), (.loc 39 0, false), (.loc 8 0, false)] [.loc 14 0, .loc 9 0] [] = ⟨[(1, .ptr (.loc 1 0) 0), (6, .mp (.loc 39 0)), (8, .ptr (.loc 8 0) 0), (10, .pv (.slice (List.map (eInt .i64) x11.2.1))), (41, .pv (.slice (List.map T_api_Customer.pv x2.f_Customers))), (42, .pv (.int .i64 (x2.f_Customers.length : Int))), (43, .pv (.int .i64 x8)), (62, .pv (.slice (List.map (eInt .i64) x11.2.1))), (63, .pv (.int .i64 (x11.2.1.length : Int))), (64, .pv (.int .i64 q.1))], [(.loc 1 0, .box [.pv (.slice (List.map T_api_Customer.pv x2.f_Customers)), .pv (.slice (List.map T_api_Record.pv x2.f_Records))]), (.loc 39 0, .map (.i .i64) (List.map (eEnt (eInt .i64) (eInt .i64)) q.2)), (.loc 8 0, .box [.pv (.int .i64 x10.f_ID), .pv (.str x10.f_Name), .pv (.int .i64 x10.f_Kind)])]⟩) hj13 ?_ ?_
              · exact (by (show _ = _); kernel_rfl)
              · intro q σj13 oj13 hJj13 h
                obtain ⟨x14, m15⟩ := q
                refine W.keep hJj13 ?_
                refine W.seqOps (RunR.all (by kernel_rfl)) ?_
                refine W.seqCond (t := decide (x14 < (x11.2.1.length : Int))) (by kernel_rfl) h (fun hc h' => ?_) (fun hc h' => ?_)
                · replace h := h'
                  refine W.seqSkip ?_
                  refine W.seqPass ?_
                  refine W.assoc ?_
                  replace h := bindS h
                  obtain ⟨x16, hx16, h⟩ := h
                  refine W.seqOps (RunR.stat 1 (by kernel_rfl) (RunR.dyn (Step.idxT (f := (eInt .i64)) (l := x11.2.1) (n := x14) (e := x16) (k := .i64) (by kernel_rfl) (by kernel_rfl) hx16 (by kernel_rfl)) (RunR.all (by kernel_rfl)))) ?_
                  refine W.assoc ?_
                  refine W.seqOps (RunR.stat 2 (by kernel_rfl) (RunR.dyn (Step.mlookT (key := .loc 39 0) (f := (eInt .i64)) (g := (eInt .i64)) (l := m15) (kv := x16) (z := (0 : Int)) same1_int (by kernel_rfl) (by kernel_rfl) (by kernel_rfl) (by kernel_rfl) (by kernel_rfl)) (RunR.stat 1 (by kernel_rfl) (RunR.dyn (Step.msetT (key := .loc 39 0) (f := (eInt .i64)) (g := (eInt .i64)) (l := m15) (kv := x16) (vv := IntKind.wrap .i64 (((mget m15 x16).getD (0 : Int)) + 1)) same1_int (by kernel_rfl) (by kernel_rfl) (by kernel_rfl) (by kernel_rfl) (by kernel_rfl)) ((.nil _)))))) ?_
                  refine W.assoc ?_
                  replace h := bindS h
                  obtain ⟨x17, hx17, h⟩ := h
                  refine W.seqOps (RunR.stat 2 (by kernel_rfl) (RunR.cons (tab_cons (on := true) (fun _ => chart_Find_ok hx17) tab_nil) (Step.call0 (g := 29) (caps := []) (v := .tup [.pv (T_api_Record.pv x17.1), .pv (.int .i64 x17.2)]) (by kernel_rfl) (by kernel_rfl) (by kernel_rfl) (tab_hit (by kernel_rfl)) (by kernel_rfl)) (RunR.all (by kernel_rfl)))) ?_
                  refine W.assoc ?_
                  replace h := bindS h
                  obtain ⟨c18, hc18, h⟩ := h
                  replace h := bindS h
                  obtain ⟨c19, hc19, h⟩ := h
                  replace h := bindS h
                  obtain ⟨c20, hc20, h⟩ := h
                  replace h := bindS h
                  obtain ⟨x21, hx21, h⟩ := h
                  refine W.seqOps (RunR.stat 2 (by kernel_rfl) (RunR.dyn (Step.name (f := eBool) (e := (x17.2 != 0)) (c := c18) (by kernel_rfl) hc18) (RunR.puts 6 [(87, .pv (.bool (c18 || (x17.1.f_Customer != x10.f_ID)))), (86, (bif !c18 then (.pv (.bool (x17.1.f_Customer != x10.f_ID))) else (.tup []))), (85, (bif !c18 then (.pv (.int .i64 x10.f_ID)) else (.tup []))), (84, (bif !c18 then (.ptr (.loc 8 0) 0) else (.tup []))), (83, (bif !c18 then (.pv (.int .i64 x17.1.f_Customer)) else (.tup []))), (82, (bif !c18 then (.ptr (.loc 14 0) 3) else (.tup [])))] (by cases c18 <;> kernel_rfl) (RunR.dyn (Step.name (f := eBool) (e := (c18 || (x17.1.f_Customer != x10.f_ID))) (c := c19) (by kernel_rfl) hc19) (RunR.puts 2 [(90, (bif !c19 then (.pv (.bool (decide (x14 > 0)))) else (.tup []))), (89, (bif !c19 then (.pv (.int .i64 x14)) else (.tup [])))] (by cases c19 <;> kernel_rfl) (RunR.dyn (Step.gdG (!c19) (by kernel_rfl) (by
                        cases c19
                        · exact .inr ⟨by kernel_rfl, by kernel_rfl, Step.name (f := eBool) (e := decide (x14 > 0)) (c := c20) (by kernel_rfl) hc20⟩
                        · exact .inl ⟨by kernel_rfl, by kernel_rfl⟩)) (RunR.puts 3 [(94, (bif ((!c19) && c20) then (.pv (.int .i64 (IntKind.wrap .i64 (x14 - 1)))) else (.tup []))), (93, (bif ((!c19) && c20) then (.pv (.int .i64 x14)) else (.tup []))), (92, (bif ((!c19) && c20) then (.pv (.slice (List.map (eInt .i64) x11.2.1))) else (.tup [])))] (by cases c19 <;> cases c20 <;> kernel_rfl) (RunR.dyn (Step.gdG ((!c19) && c20) (by kernel_rfl) (by
                        cases c19
                        · cases c20
                          · exact .inl ⟨by kernel_rfl, by kernel_rfl⟩
                          · exact .inr ⟨by kernel_rfl, by kernel_rfl, Step.idxT (f := (eInt .i64)) (l := x11.2.1) (n := IntKind.wrap .i64 (x14 - 1)) (e := x21) (k := .i64) (by kernel_rfl) (by kernel_rfl) hx21 (by kernel_rfl)⟩
                        · cases c20
                          · exact .inl ⟨by kernel_rfl, by kernel_rfl⟩
                          · exact .inl ⟨by kernel_rfl, by kernel_rfl⟩)) (RunR.puts 5 [(100, .pv (.bool (c19 || (c20 && (decide (x21 ≥ x16)))))), (99, (bif !c19 then (.pv (.bool (c20 && (decide (x21 ≥ x16))))) else (.tup []))), (98, (bif ((!c19) && c20) then (.pv (.bool (decide (x21 ≥ x16)))) else (.tup []))), (97, (bif ((!c19) && c20) then (.pv (.int .i64 x16)) else (.tup []))), (96, (bif ((!c19) && c20) then (.pv (.int .i64 x21)) else (.tup [])))] (by cases c19 <;> cases c20 <;> kernel_rfl) ((.nil _))))))))))) ?_
                  refine W.seqCond (t := (c19 || (c20 && (decide (x21 ≥ x16))))) (by kernel_rfl) h (fun hc h' => ?_) (fun hc h' => ?_)
                  · replace h := h'
                    refine W.assoc ?_
                    refine W.seqOps (RunR.all (by kernel_rfl)) ?_
                    refine W.seqKeep rfl ?_
                    cases h
                    exact W.seqRet ((outw_out ret_ne (bout_o ret_ne ret_ne' (fun e => by subst e; exact (outw_out ret_ne (bout_o ret_ne ret_ne' (fun e => by subst e; exact (fin_ret (by kernel_rfl)))))))))
                  · replace h := h'
                    refine W.seqSkip ?_
                    refine W.ops (RunR.all (by kernel_rfl)) ?_
                    cases h
                    exact (outw_in (by (show _ = _); kernel_rfl))
                · replace h := h'
                  cases h
                  exact W.seqExit ((outw_out exit_ne (bout_x (by (show _ = _); kernel_rfl))))
            · subst hp
              refine W.keep hsj13 ?_
              refine W.ops (RunR.all (by kernel_rfl)) ?_
              cases h
              exact (outw_in (by (show _ = _); kernel_rfl))
            · subst hp
              exact Option.some.inj h
        · replace h := h'
          cases h
          exact W.seqExit ((outw_out exit_ne (bout_x (by (show _ = _); kernel_rfl))))
    · subst hp
      refine W.assoc ?_
      refine W.seqKeep hsj7 ?_
      refine W.seqOps (RunR.stat 2 (by kernel_rfl) (RunR.dyn (Step.lenT (f := T_api_Record.pv) (l := x2.f_Records) (by kernel_rfl)) (RunR.all (by kernel_rfl)))) ?_
      replace h := bindS h
      obtain ⟨j24, hj24, h⟩ := h
      refine W.joinOut (j := j24) (o := r) (fun p σ => σ.tidy [] [] [] [.loc 1 0, .loc 39 0] [] = ⟨[], []⟩) ?_ (fun p σj24 hp hsj24 => ?_) (fun p hp => ?_)
      · refine W.blockLoopO (fun q σ => ((σ.forget [6, 104, 105, 106]).killAll []).tidy [] [(6, false), (104, false), (105, false), (106, false)] [(.loc 39 0, false)] [.loc 1 0, .loc 17 0] [] = ⟨[(6, .mp (.loc 39 0)), (104, .pv (.slice (List.map T_api_Record.pv x2.f_Records))), (105, .pv (.int .i64 (x2.f_Records.length : Int))), (106, .pv (.int .i64 q))], [(.loc 39 0, .map (.i .i64) (List.map (eEnt (eInt .i64) (eInt .i64)) m23))]⟩) hj24 ?_ ?_
        · exact (by (show _ = _); kernel_rfl)
        · intro x25 σj24 oj24 hJj24 h
          refine W.keep hJj24 ?_
          refine W.seqOps (RunR.all (by kernel_rfl)) ?_
          refine W.seqCond (t := decide (x25 < (x2.f_Records.length : Int))) (by kernel_rfl) h (fun hc h' => ?_) (fun hc h' => ?_)
          · replace h := h'
            refine W.seqSkip ?_
            refine W.seqPass ?_
            refine W.assoc ?_
            replace h := bindS h
            obtain ⟨x26, hx26, h⟩ := h
            refine W.seqOps (RunR.dyn (Step.idxT (f := T_api_Record.pv) (l := x2.f_Records) (n := x25) (e := x26) (k := .i64) (by kernel_rfl) (by kernel_rfl) hx26 (by kernel_rfl)) (RunR.all (by kernel_rfl))) ?_
            refine W.assoc ?_
            replace h := bindS h
            obtain ⟨c27, hc27, h⟩ := h
            refine W.seqOps (RunR.stat 3 (by kernel_rfl) (RunR.dyn (Step.mlookT (key := .loc 39 0) (f := (eInt .i64)) (g := (eInt .i64)) (l := m23) (kv := x26.f_Acc) (z := (0 : Int)) same1_int (by kernel_rfl) (by kernel_rfl) (by kernel_rfl) (by kernel_rfl) (by kernel_rfl)) (RunR.stat 5 (by kernel_rfl) (RunR.dyn (Step.name (f := eBool) (e := !((((mget m23 x26.f_Acc).getD (0 : Int)) == 1) == (decide (x26.f_Customer > 0)))) (c := c27) (by kernel_rfl) hc27) (RunR.puts 3 [(122, (bif !c27 then (.pv (.int .i64 x26.f_Acc)) else (.tup []))), (121, (bif !c27 then (.ptr (.loc 17 0) 0) else (.tup []))), (120, (bif !c27 then (.mp (.loc 39 0)) else (.tup [])))] (by cases c27 <;> kernel_rfl) (RunR.dyn (Step.gdG (!c27) (by kernel_rfl) (by
                  cases c27
                  · exact .inr ⟨by kernel_rfl, by kernel_rfl, Step.mlookT (key := .loc 39 0) (f := (eInt .i64)) (g := (eInt .i64)) (l := m23) (kv := x26.f_Acc) (z := (0 : Int)) same1_int (by kernel_rfl) (by kernel_rfl) (by kernel_rfl) (by kernel_rfl) (by kernel_rfl)⟩
                  · exact .inl ⟨by kernel_rfl, by kernel_rfl⟩)) (RunR.puts 2 [(125, .pv (.bool (c27 || (decide (((mget m23 x26.f_Acc).getD (0 : Int)) > 1))))), (124, (bif !c27 then (.pv (.bool (decide (((mget m23 x26.f_Acc).getD (0 : Int)) > 1)))) else (.tup [])))] (by cases c27 <;> kernel_rfl) ((.nil _))))))))) ?_
            refine W.seqCond (t := (c27 || (decide (((mget m23 x26.f_Acc).getD (0 : Int)) > 1)))) (by kernel_rfl) h (fun hc h' => ?_) (fun hc h' => ?_)
            · replace h := h'
              refine W.assoc ?_
              refine W.seqOps (RunR.all (by kernel_rfl)) ?_
              refine W.seqKeep rfl ?_
              cases h
              exact W.seqRet ((outw_out ret_ne (bout_o ret_ne ret_ne' (fun e => by subst e; exact (fin_ret (by kernel_rfl))))))
            · replace h := h'
              refine W.seqSkip ?_
              refine W.ops (RunR.all (by kernel_rfl)) ?_
              cases h
              exact (outw_in (by (show _ = _); kernel_rfl))
          · replace h := h'
            cases h
            exact W.seqExit ((outw_out exit_ne (bout_x (by (show _ = _); kernel_rfl))))
      · subst hp
        obtain ⟨⟩ := p
        refine W.seqKeep hsj24 ?_
        replace h := bindS h
        obtain ⟨x28, hx28, h⟩ := h
        refine W.seqOps (RunR.cons (tab_cons (on := true) (fun _ => cashbooklaw18_alive_ok hx28) tab_nil) (Step.call0 (g := 18) (caps := []) (v := .pv (.bool x28)) (by kernel_rfl) (by kernel_rfl) (by kernel_rfl) (tab_hit (by kernel_rfl)) (by kernel_rfl)) (RunR.all (by kernel_rfl))) ?_
        refine W.keep rfl ?_
        cases h
        exact W.ret ((fin_ret (by kernel_rfl)))
      · subst hp
        exact Option.some.inj h
    · subst hp
      exact Option.some.inj h
end Go.Av.G
