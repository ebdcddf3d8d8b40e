/- What functions of the program compute, in plain words, and that they do: printed by a program of ours. -/
import Derived.Test.YtkcilagjhieapaaUh1
set_option linter.unusedVariables false
set_option linter.unusedSimpArgs false
set_option maxRecDepth 100000
set_option maxHeartbeats 8000000
namespace Go.Av.G
open Go Go.Av Go.Proofs
def pcashbooklaw25_HoldTellsr0 : List GOp := [⟨(some 3), none, .box (.tmp 1)⟩, ⟨(some 4), none, .mov (.cst (.bool false))⟩]
def pcashbooklaw25_HoldTellsr1 : List GOp := [⟨(some 12), none, .mov (.tmp 0)⟩, ⟨(some 13), none, .len false (.tmp 12)⟩, ⟨(some 14), none, .bin false .gtr (.tmp 13) (.cst (.int .i64 300))⟩]
def pcashbooklaw25_HoldTellsr2 : List GOp := [⟨(some 15), none, .call 0 0 (.cst (.fn 35)) [] [] []⟩, ⟨(some 4), none, .mov (.tmp 15)⟩]
def pcashbooklaw25_HoldTellsr3 : List GOp := [⟨(some 16), none, .mov (.tmp 0)⟩, ⟨(some 17), none, .call 0 0 (.cst (.fn 36)) [(.tmp 16)] [] []⟩, ⟨(some 5), none, .mov (.tmp 17)⟩]
def pcashbooklaw25_HoldTellsr4 : List GOp := [⟨(some 19), none, .mov (.tmp 0)⟩, ⟨(some 20), none, .fld 0 (.tmp 3)⟩, ⟨(some 21), none, .load false 1 (.tmp 20)⟩, ⟨(some 22), none, .fld 1 (.tmp 3)⟩, ⟨(some 23), none, .load false 1 (.tmp 22)⟩, ⟨(some 24), none, .fld 2 (.tmp 3)⟩, ⟨(some 25), none, .load false 1 (.tmp 24)⟩, ⟨(some 26), none, .fld 3 (.tmp 3)⟩, ⟨(some 27), none, .load false 1 (.tmp 26)⟩, ⟨(some 28), none, .call 0 0 (.cst (.fn 37)) [(.tmp 19), (.tmp 21), (.tmp 23), (.tmp 25), (.tmp 27)] [] []⟩, ⟨(some 18), none, .mov (.tmp 28)⟩, ⟨(some 29), none, .ext 0 (.tmp 18)⟩, ⟨(some 30), none, .ext 1 (.tmp 18)⟩, ⟨(some 6), none, .mov (.tmp 29)⟩, ⟨(some 7), none, .mov (.tmp 30)⟩]
def pcashbooklaw25_HoldTellsr5 : List GOp := [⟨(some 32), none, .mov (.tmp 0)⟩, ⟨(some 33), none, .fld 0 (.tmp 3)⟩, ⟨(some 34), none, .load false 1 (.tmp 33)⟩, ⟨(some 35), none, .fld 1 (.tmp 3)⟩, ⟨(some 36), none, .load false 1 (.tmp 35)⟩, ⟨(some 37), none, .fld 2 (.tmp 3)⟩, ⟨(some 38), none, .load false 1 (.tmp 37)⟩, ⟨(some 39), none, .fld 4 (.tmp 3)⟩, ⟨(some 40), none, .load false 1 (.tmp 39)⟩, ⟨(some 41), none, .call 0 0 (.cst (.fn 38)) [(.tmp 32), (.tmp 34), (.tmp 36), (.tmp 38), (.tmp 40)] [] []⟩, ⟨(some 31), none, .mov (.tmp 41)⟩, ⟨(some 42), none, .ext 0 (.tmp 31)⟩, ⟨(some 43), none, .ext 1 (.tmp 31)⟩, ⟨(some 8), none, .mov (.tmp 42)⟩, ⟨(some 9), none, .mov (.tmp 43)⟩]
def pcashbooklaw25_HoldTellsr6 : List GOp := [⟨(some 44), none, .mov (.tmp 0)⟩, ⟨(some 45), none, .call 0 0 (.cst (.fn 39)) [(.tmp 44)] [] []⟩, ⟨(some 10), none, .mov (.tmp 45)⟩]
def pcashbooklaw25_HoldTellsr7 : List GOp := [⟨(some 46), none, .mov (.tmp 5)⟩, ⟨(some 47), none, .mov (.tmp 10)⟩, ⟨(some 48), none, .bin false .neq (.tmp 46) (.tmp 47)⟩, ⟨(some 49), none, .mov (.tmp 48)⟩, ⟨(some 50), (some (49, false)), .mov (.tmp 7)⟩, ⟨(some 51), (some (49, false)), .mov (.tmp 10)⟩, ⟨(some 52), (some (49, false)), .bin false .neq (.tmp 50) (.tmp 51)⟩, ⟨(some 53), none, .pick (.tmp 49) (.cst (.bool true)) (.tmp 52)⟩, ⟨(some 54), none, .mov (.tmp 53)⟩, ⟨(some 55), (some (54, false)), .mov (.tmp 9)⟩, ⟨(some 56), (some (54, false)), .mov (.tmp 10)⟩, ⟨(some 57), (some (54, false)), .bin false .neq (.tmp 55) (.tmp 56)⟩, ⟨(some 58), none, .pick (.tmp 54) (.cst (.bool true)) (.tmp 57)⟩, ⟨(some 59), none, .mov (.tmp 58)⟩, ⟨(some 60), (some (59, false)), .fld 5 (.tmp 3)⟩, ⟨(some 61), (some (59, false)), .load true 9 (.tmp 60)⟩, ⟨(some 62), (some (59, false)), .fld 2 (.tmp 3)⟩, ⟨(some 63), (some (59, false)), .load false 1 (.tmp 62)⟩, ⟨(some 64), (some (59, false)), .call 0 0 (.cst (.fn 40)) [(.tmp 61), (.tmp 63)] [] []⟩, ⟨(some 65), (some (59, false)), .fld 5 (.tmp 3)⟩, ⟨(some 66), (some (59, false)), .load true 9 (.tmp 65)⟩, ⟨(some 67), (some (59, false)), .fld 2 (.tmp 3)⟩, ⟨(some 68), (some (59, false)), .load false 1 (.tmp 67)⟩, ⟨(some 69), (some (59, false)), .call 0 0 (.cst (.fn 41)) [(.tmp 66), (.tmp 68)] [] []⟩, ⟨(some 70), (some (59, false)), .bin true .neq (.tmp 64) (.tmp 69)⟩, ⟨(some 71), none, .pick (.tmp 59) (.cst (.bool true)) (.tmp 70)⟩, ⟨(some 72), none, .mov (.tmp 71)⟩, ⟨(some 73), (some (72, false)), .fld 5 (.tmp 3)⟩, ⟨(some 74), (some (72, false)), .load true 9 (.tmp 73)⟩, ⟨(some 75), (some (72, false)), .fld 2 (.tmp 3)⟩, ⟨(some 76), (some (72, false)), .load false 1 (.tmp 75)⟩, ⟨(some 77), (some (72, false)), .call 0 0 (.cst (.fn 42)) [(.tmp 74), (.tmp 76)] [] []⟩, ⟨(some 78), (some (72, false)), .fld 5 (.tmp 3)⟩, ⟨(some 79), (some (72, false)), .load true 9 (.tmp 78)⟩, ⟨(some 80), (some (72, false)), .fld 2 (.tmp 3)⟩, ⟨(some 81), (some (72, false)), .load false 1 (.tmp 80)⟩, ⟨(some 82), (some (72, false)), .call 0 0 (.cst (.fn 43)) [(.tmp 79), (.tmp 81)] [] []⟩, ⟨(some 83), (some (72, false)), .bin false .neq (.tmp 77) (.tmp 82)⟩, ⟨(some 84), none, .pick (.tmp 72) (.cst (.bool true)) (.tmp 83)⟩]
def pcashbooklaw25_HoldTellsr8 : List GOp := [⟨(some 4), none, .mov (.cst (.bool false))⟩]
def pcashbooklaw25_HoldTellsr9 : List GOp := [⟨(some 85), none, .mov (.tmp 10)⟩, ⟨(some 86), none, .bin false .neq (.tmp 85) (.cst (.int .i64 0))⟩]
def pcashbooklaw25_HoldTellsr10 : List GOp := [⟨(some 87), none, .call 0 0 (.cst (.fn 35)) [] [] []⟩, ⟨(some 88), none, .mov (.tmp 87)⟩, ⟨(some 89), (some (88, true)), .mov (.tmp 6)⟩, ⟨(some 90), (some (88, true)), .bin false .eql (.tmp 89) (.cst (.int .i64 0))⟩, ⟨(some 91), none, .pick (.tmp 88) (.tmp 90) (.cst (.bool false))⟩, ⟨(some 92), none, .mov (.tmp 91)⟩, ⟨(some 93), (some (92, true)), .mov (.tmp 8)⟩, ⟨(some 94), (some (92, true)), .len false (.tmp 93)⟩, ⟨(some 95), (some (92, true)), .bin false .eql (.tmp 94) (.cst (.int .i64 0))⟩, ⟨(some 96), none, .pick (.tmp 92) (.tmp 95) (.cst (.bool false))⟩, ⟨(some 4), none, .mov (.tmp 96)⟩]
def pcashbooklaw25_HoldTellsr11 : List GOp := [⟨(some 97), none, .mov (.tmp 8)⟩, ⟨(some 98), none, .mov (.tmp 0)⟩, ⟨(some 99), none, .fld 0 (.tmp 3)⟩, ⟨(some 100), none, .load false 1 (.tmp 99)⟩, ⟨(some 101), none, .fld 1 (.tmp 3)⟩, ⟨(some 102), none, .load false 1 (.tmp 101)⟩, ⟨(some 103), none, .fld 2 (.tmp 3)⟩, ⟨(some 104), none, .load false 1 (.tmp 103)⟩, ⟨(some 105), none, .fld 4 (.tmp 3)⟩, ⟨(some 106), none, .load false 1 (.tmp 105)⟩, ⟨(some 107), none, .call 0 0 (.cst (.fn 45)) [(.tmp 98), (.tmp 100), (.tmp 102), (.tmp 104), (.tmp 106)] [] []⟩, ⟨(some 108), none, .call 0 0 (.cst (.fn 44)) [(.tmp 97), (.tmp 107)] [] []⟩, ⟨(some 11), none, .mov (.tmp 108)⟩]
def pcashbooklaw25_HoldTellsr12 : List GOp := [⟨(some 109), none, .call 0 0 (.cst (.fn 35)) [] [] []⟩, ⟨(some 110), none, .mov (.tmp 109)⟩, ⟨(some 111), (some (110, true)), .mov (.tmp 6)⟩, ⟨(some 112), (some (110, true)), .mov (.tmp 0)⟩, ⟨(some 113), (some (110, true)), .fld 0 (.tmp 3)⟩, ⟨(some 114), (some (110, true)), .load false 1 (.tmp 113)⟩, ⟨(some 115), (some (110, true)), .fld 1 (.tmp 3)⟩, ⟨(some 116), (some (110, true)), .load false 1 (.tmp 115)⟩, ⟨(some 117), (some (110, true)), .fld 2 (.tmp 3)⟩, ⟨(some 118), (some (110, true)), .load false 1 (.tmp 117)⟩, ⟨(some 119), (some (110, true)), .fld 3 (.tmp 3)⟩, ⟨(some 120), (some (110, true)), .load false 1 (.tmp 119)⟩, ⟨(some 121), (some (110, true)), .call 0 0 (.cst (.fn 46)) [(.tmp 112), (.tmp 114), (.tmp 116), (.tmp 118), (.tmp 120)] [] []⟩, ⟨(some 122), (some (110, true)), .bin false .eql (.tmp 111) (.tmp 121)⟩, ⟨(some 123), none, .pick (.tmp 110) (.tmp 122) (.cst (.bool false))⟩, ⟨(some 124), none, .mov (.tmp 123)⟩, ⟨(some 125), (some (124, true)), .mov (.tmp 11)⟩, ⟨(some 126), none, .pick (.tmp 124) (.tmp 125) (.cst (.bool false))⟩, ⟨(some 4), none, .mov (.tmp 126)⟩]
def pcashbooklaw25_HoldTellsb : AC := (.seq (.ops pcashbooklaw25_HoldTellsr0) (.seq (.seq (.ops pcashbooklaw25_HoldTellsr1) (.cond (.tmp 14) (.seq (.ops pcashbooklaw25_HoldTellsr2) (.keep [] [(4, false)] [] [.loc 3 0] [] .ret)) .skip)) (.seq (.ops pcashbooklaw25_HoldTellsr3) (.seq (.ops pcashbooklaw25_HoldTellsr4) (.seq (.ops pcashbooklaw25_HoldTellsr5) (.seq (.ops pcashbooklaw25_HoldTellsr6) (.seq (.seq (.draw [] pcashbooklaw25_HoldTellsr7) (.cond (.tmp 84) (.seq (.ops pcashbooklaw25_HoldTellsr8) (.keep [] [(4, false)] [] [.loc 3 0] [] .ret)) .skip)) (.seq (.seq (.ops pcashbooklaw25_HoldTellsr9) (.cond (.tmp 86) (.seq (.ops pcashbooklaw25_HoldTellsr10) (.keep [] [(4, false)] [] [.loc 3 0] [] .ret)) .skip)) (.seq (.ops pcashbooklaw25_HoldTellsr11) (.seq (.ops pcashbooklaw25_HoldTellsr12) (.keep [] [(4, false)] [] [.loc 3 0] [] .ret)))))))))))
def pcashbooklaw25_HoldTells : Fd := ⟨2, [.tmp 4], [], pcashbooklaw25_HoldTellsb⟩
theorem pcashbooklaw25_HoldTells_ag : agreeF Try.prog Try.f7 pcashbooklaw25_HoldTells = true := by kernel_rfl
theorem cashbooklaw25_HoldTells_ok {l1 : List T_api_Hold} {x2 : T_cashbooklaw25_Ask} {r : Bool} (h : cashbooklaw25_HoldTells l1 x2 = some r) : Contract Try.prog 7 [.pv (.slice (List.map T_api_Hold.pv l1)), .pv (T_cashbooklaw25_Ask.pv x2)] [] ⟨.pv (.bool r), [], []⟩ := by
  refine contract_fin hm Try.func7 pcashbooklaw25_HoldTells_ag (by kernel_rfl) ?_
  unfold cashbooklaw25_HoldTells at h
  refine W.seqOps (RunR.all (by kernel_rfl)) ?_
  refine W.assoc ?_
  refine W.seqOps (RunR.stat 1 (by kernel_rfl) (RunR.dyn (Step.lenT (f := T_api_Hold.pv) (l := l1) (by kernel_rfl)) (RunR.all (by kernel_rfl)))) ?_
  refine W.seqCond (t := decide ((l1.length : Int) > 300)) (by kernel_rfl) h (fun hc h' => ?_) (fun hc h' => ?_)
  · replace h := h'
    refine W.assoc ?_
    replace h := bindS h
    obtain ⟨x3, hx3, h⟩ := h
    refine W.seqOps (RunR.cons (tab_cons (on := true) (fun _ => cashbooklaw25_alive_ok hx3) tab_nil) (Step.call0 (g := 35) (caps := []) (v := .pv (.bool x3)) (by kernel_rfl) (by kernel_rfl) (by kernel_rfl) (tab_hit (by kernel_rfl)) (by kernel_rfl)) (RunR.all (by kernel_rfl))) ?_
    refine W.seqKeep rfl ?_
    cases h
    exact W.seqRet ((fin_ret (by kernel_rfl)))
  · replace h := h'
    refine W.seqSkip ?_
    replace h := bindS h
    obtain ⟨x4, hx4, h⟩ := h
    refine W.seqOps (RunR.stat 1 (by kernel_rfl) (RunR.cons (tab_cons (on := true) (fun _ => hold_Check_ok hx4) tab_nil) (Step.call0 (g := 36) (caps := []) (v := .pv (.int .i64 x4)) (by kernel_rfl) (by kernel_rfl) (by kernel_rfl) (tab_hit (by kernel_rfl)) (by kernel_rfl)) (RunR.all (by kernel_rfl)))) ?_
    replace h := bindS h
    obtain ⟨x5, hx5, h⟩ := h
    refine W.seqOps (RunR.stat 9 (by kernel_rfl) (RunR.cons (tab_cons (on := true) (fun _ => hold_Sum_ok hx5) tab_nil) (Step.call0 (g := 37) (caps := []) (v := .tup [.pv (.int .i64 x5.1), .pv (.int .i64 x5.2)]) (by kernel_rfl) (by kernel_rfl) (by kernel_rfl) (tab_hit (by kernel_rfl)) (by kernel_rfl)) (RunR.all (by kernel_rfl)))) ?_
    replace h := bindS h
    obtain ⟨x6, hx6, h⟩ := h
    refine W.seqOps (RunR.stat 9 (by kernel_rfl) (RunR.cons (tab_cons (on := true) (fun _ => hold_Cover_ok hx6) tab_nil) (Step.call0 (g := 38) (caps := []) (v := .tup [.pv (.slice (List.map T_api_Covered.pv x6.1)), .pv (.int .i64 x6.2)]) (by kernel_rfl) (by kernel_rfl) (by kernel_rfl) (tab_hit (by kernel_rfl)) (by kernel_rfl)) (RunR.all (by kernel_rfl)))) ?_
    replace h := bindS h
    obtain ⟨x7, hx7, h⟩ := h
    refine W.seqOps (RunR.stat 1 (by kernel_rfl) (RunR.cons (tab_cons (on := true) (fun _ => cashbookref25_Check_ok hx7) tab_nil) (Step.call0 (g := 39) (caps := []) (v := .pv (.int .i64 x7)) (by kernel_rfl) (by kernel_rfl) (by kernel_rfl) (tab_hit (by kernel_rfl)) (by kernel_rfl)) (RunR.all (by kernel_rfl)))) ?_
    refine W.assoc ?_
    replace h := bindS h
    obtain ⟨c8, hc8, h⟩ := h
    replace h := bindS h
    obtain ⟨c9, hc9, h⟩ := h
    replace h := bindS h
    obtain ⟨c10, hc10, h⟩ := h
    replace h := bindS h
    obtain ⟨x11, hx11, h⟩ := h
    replace h := bindS h
    obtain ⟨x12, hx12, h⟩ := h
    replace h := bindS h
    obtain ⟨c13, hc13, h⟩ := h
    replace h := bindS h
    obtain ⟨x14, hx14, h⟩ := h
    replace h := bindS h
    obtain ⟨x15, hx15, h⟩ := h
    refine W.seqDraw (tab_cons (on := (!c10)) (fun hg => hold_Live_ok (gdO_at hg hx11)) (tab_cons (on := (!c10)) (fun hg => cashbookref25_Live_ok (gdO_at hg hx12)) (tab_cons (on := (!c13)) (fun hg => hold_Rest_ok (gdO_at hg hx14)) (tab_cons (on := (!c13)) (fun hg => cashbookref25_Rest_ok (gdO_at hg hx15)) tab_nil)))) (Run.stat 3 (by kernel_rfl) (Run.dyn (Step.name (f := eBool) (e := (x4 != x7)) (c := c8) (by kernel_rfl) hc8) (Run.puts 4 [(53, .pv (.bool (c8 || (x5.2 != x7)))), (52, (bif !c8 then (.pv (.bool (x5.2 != x7))) else (.tup []))), (51, (bif !c8 then (.pv (.int .i64 x7)) else (.tup []))), (50, (bif !c8 then (.pv (.int .i64 x5.2)) else (.tup [])))] (by cases c8 <;> kernel_rfl) (Run.dyn (Step.name (f := eBool) (e := (c8 || (x5.2 != x7))) (c := c9) (by kernel_rfl) hc9) (Run.puts 4 [(58, .pv (.bool (c9 || (x6.2 != x7)))), (57, (bif !c9 then (.pv (.bool (x6.2 != x7))) else (.tup []))), (56, (bif !c9 then (.pv (.int .i64 x7)) else (.tup []))), (55, (bif !c9 then (.pv (.int .i64 x6.2)) else (.tup [])))] (by cases c9 <;> kernel_rfl) (Run.dyn (Step.name (f := eBool) (e := (c9 || (x6.2 != x7))) (c := c10) (by kernel_rfl) hc10) (Run.puts 4 [(63, (bif !c10 then (.pv (.int .i32 x2.f_Now)) else (.tup []))), (62, (bif !c10 then (.ptr (.loc 3 0) 2) else (.tup []))), (61, (bif !c10 then (.pv (T_api_Hold.pv x2.f_H)) else (.tup []))), (60, (bif !c10 then (.ptr (.loc 3 0) 5) else (.tup [])))] (by cases c10 <;> kernel_rfl) (Run.dyn (Step.gdG (!c10) (by kernel_rfl) (by
          cases c10
          · exact .inr ⟨by kernel_rfl, by kernel_rfl, Step.call0 (g := 40) (caps := []) (v := .pv (.bool x11)) (by kernel_rfl) (by kernel_rfl) (by kernel_rfl) (tab_hit (by kernel_rfl)) (by kernel_rfl)⟩
          · exact .inl ⟨by kernel_rfl, by kernel_rfl⟩)) (Run.puts 4 [(68, (bif !c10 then (.pv (.int .i32 x2.f_Now)) else (.tup []))), (67, (bif !c10 then (.ptr (.loc 3 0) 2) else (.tup []))), (66, (bif !c10 then (.pv (T_api_Hold.pv x2.f_H)) else (.tup []))), (65, (bif !c10 then (.ptr (.loc 3 0) 5) else (.tup [])))] (by cases c10 <;> kernel_rfl) (Run.dyn (Step.gdG (!c10) (by kernel_rfl) (by
          cases c10
          · exact .inr ⟨by kernel_rfl, by kernel_rfl, Step.call0 (g := 41) (caps := []) (v := .pv (.bool x12)) (by kernel_rfl) (by kernel_rfl) (by kernel_rfl) (tab_next rfl (tab_hit (by kernel_rfl))) (by kernel_rfl)⟩
          · exact .inl ⟨by kernel_rfl, by kernel_rfl⟩)) (Run.puts 2 [(71, .pv (.bool (c10 || (!(x11 == x12))))), (70, (bif !c10 then (.pv (.bool (!(x11 == x12)))) else (.tup [])))] (by cases c10 <;> kernel_rfl) (Run.dyn (Step.name (f := eBool) (e := (c10 || (!(x11 == x12)))) (c := c13) (by kernel_rfl) hc13) (Run.puts 4 [(76, (bif !c13 then (.pv (.int .i32 x2.f_Now)) else (.tup []))), (75, (bif !c13 then (.ptr (.loc 3 0) 2) else (.tup []))), (74, (bif !c13 then (.pv (T_api_Hold.pv x2.f_H)) else (.tup []))), (73, (bif !c13 then (.ptr (.loc 3 0) 5) else (.tup [])))] (by cases c13 <;> kernel_rfl) (Run.dyn (Step.gdG (!c13) (by kernel_rfl) (by
          cases c13
          · exact .inr ⟨by kernel_rfl, by kernel_rfl, Step.call0 (g := 42) (caps := []) (v := .pv (.int .i64 x14)) (by kernel_rfl) (by kernel_rfl) (by kernel_rfl) (tab_next rfl (tab_next rfl (tab_hit (by kernel_rfl)))) (by kernel_rfl)⟩
          · exact .inl ⟨by kernel_rfl, by kernel_rfl⟩)) (Run.puts 4 [(81, (bif !c13 then (.pv (.int .i32 x2.f_Now)) else (.tup []))), (80, (bif !c13 then (.ptr (.loc 3 0) 2) else (.tup []))), (79, (bif !c13 then (.pv (T_api_Hold.pv x2.f_H)) else (.tup []))), (78, (bif !c13 then (.ptr (.loc 3 0) 5) else (.tup [])))] (by cases c13 <;> kernel_rfl) (Run.dyn (Step.gdG (!c13) (by kernel_rfl) (by
          cases c13
          · exact .inr ⟨by kernel_rfl, by kernel_rfl, Step.call0 (g := 43) (caps := []) (v := .pv (.int .i64 x15)) (by kernel_rfl) (by kernel_rfl) (by kernel_rfl) (tab_next rfl (tab_next rfl (tab_next rfl (tab_hit (by kernel_rfl))))) (by kernel_rfl)⟩
          · exact .inl ⟨by kernel_rfl, by kernel_rfl⟩)) (Run.puts 2 [(84, .pv (.bool (c13 || (x14 != x15)))), (83, (bif !c13 then (.pv (.bool (x14 != x15))) else (.tup [])))] (by cases c13 <;> kernel_rfl) ((Run.nil))))))))))))))))))) ?_
    refine W.seqCond (t := (c13 || (x14 != x15))) (by kernel_rfl) h (fun hc h' => ?_) (fun hc h' => ?_)
    · replace h := h'
      refine W.assoc ?_
      refine W.seqOps (RunR.all (by kernel_rfl)) ?_
      refine W.seqKeep rfl ?_
      cases h
      exact W.seqRet ((fin_ret (by kernel_rfl)))
    · replace h := h'
      refine W.seqSkip ?_
      refine W.assoc ?_
      refine W.seqOps (RunR.all (by kernel_rfl)) ?_
      refine W.seqCond (t := (x7 != 0)) (by kernel_rfl) h (fun hc h' => ?_) (fun hc h' => ?_)
      · replace h := h'
        refine W.assoc ?_
        replace h := bindS h
        obtain ⟨x16, hx16, h⟩ := h
        replace h := bindS h
        obtain ⟨c17, hc17, h⟩ := h
        refine W.seqOps (RunR.cons (tab_cons (on := true) (fun _ => cashbooklaw25_alive_ok hx16) tab_nil) (Step.call0 (g := 35) (caps := []) (v := .pv (.bool x16)) (by kernel_rfl) (by kernel_rfl) (by kernel_rfl) (tab_hit (by kernel_rfl)) (by kernel_rfl)) (RunR.stat 1 (by kernel_rfl) (RunR.puts 3 [(91, .pv (.bool (x16 && (x5.1 == 0)))), (90, (bif x16 then (.pv (.bool (x5.1 == 0))) else (.tup []))), (89, (bif x16 then (.pv (.int .i64 x5.1)) else (.tup [])))] (by cases x16 <;> kernel_rfl) (RunR.dyn (Step.name (f := eBool) (e := (x16 && (x5.1 == 0))) (c := c17) (by kernel_rfl) hc17) (RunR.puts 1 [(93, (bif c17 then (.pv (.slice (List.map T_api_Covered.pv x6.1))) else (.tup [])))] (by cases c17 <;> kernel_rfl) (RunR.dyn (Step.gdG c17 (by kernel_rfl) (by
              cases c17
              · exact .inl ⟨by kernel_rfl, by kernel_rfl⟩
              · exact .inr ⟨by kernel_rfl, by kernel_rfl, Step.lenT (f := T_api_Covered.pv) (l := x6.1) (by kernel_rfl)⟩)) (RunR.puts 2 [(96, .pv (.bool (c17 && ((x6.1.length : Int) == 0)))), (95, (bif c17 then (.pv (.bool ((x6.1.length : Int) == 0))) else (.tup [])))] (by cases c17 <;> kernel_rfl) (RunR.all (by kernel_rfl))))))))) ?_
        refine W.seqKeep rfl ?_
        cases h
        exact W.seqRet ((fin_ret (by kernel_rfl)))
      · replace h := h'
        refine W.seqSkip ?_
        replace h := bindS h
        obtain ⟨x18, hx18, h⟩ := h
        replace h := bindS h
        obtain ⟨x19, hx19, h⟩ := h
        refine W.seqOps (RunR.stat 10 (by kernel_rfl) (RunR.cons (tab_cons (on := true) (fun _ => cashbookref25_Cover_ok hx18) tab_nil) (Step.call0 (g := 45) (caps := []) (v := .pv (.slice (List.map T_api_Covered.pv x18))) (by kernel_rfl) (by kernel_rfl) (by kernel_rfl) (tab_hit (by kernel_rfl)) (by kernel_rfl)) (RunR.cons (tab_cons (on := true) (fun _ => cashbookref25_Covered_ok hx19) tab_nil) (Step.call0 (g := 44) (caps := []) (v := .pv (.bool x19)) (by kernel_rfl) (by kernel_rfl) (by kernel_rfl) (tab_hit (by kernel_rfl)) (by kernel_rfl)) (RunR.all (by kernel_rfl))))) ?_
        replace h := bindS h
        obtain ⟨x20, hx20, h⟩ := h
        replace h := bindS h
        obtain ⟨x21, hx21, h⟩ := h
        replace h := bindS h
        obtain ⟨c22, hc22, h⟩ := h
        refine W.seqOps (RunR.cons (tab_cons (on := true) (fun _ => cashbooklaw25_alive_ok hx20) tab_nil) (Step.call0 (g := 35) (caps := []) (v := .pv (.bool x20)) (by kernel_rfl) (by kernel_rfl) (by kernel_rfl) (tab_hit (by kernel_rfl)) (by kernel_rfl)) (RunR.stat 1 (by kernel_rfl) (RunR.puts 10 [(120, (bif x20 then (.pv (.int .i64 x2.f_Rank)) else (.tup []))), (119, (bif x20 then (.ptr (.loc 3 0) 3) else (.tup []))), (118, (bif x20 then (.pv (.int .i32 x2.f_Now)) else (.tup []))), (117, (bif x20 then (.ptr (.loc 3 0) 2) else (.tup []))), (116, (bif x20 then (.pv (.int .i64 x2.f_Cur)) else (.tup []))), (115, (bif x20 then (.ptr (.loc 3 0) 1) else (.tup []))), (114, (bif x20 then (.pv (.int .i64 x2.f_Acc)) else (.tup []))), (113, (bif x20 then (.ptr (.loc 3 0) 0) else (.tup []))), (112, (bif x20 then (.pv (.slice (List.map T_api_Hold.pv l1))) else (.tup []))), (111, (bif x20 then (.pv (.int .i64 x5.1)) else (.tup [])))] (by cases x20 <;> kernel_rfl) (RunR.cons (tab_cons (on := x20) (fun hg => cashbookref25_Sum_ok (gdO_at hg hx21)) tab_nil) (Step.gdG x20 (by kernel_rfl) (by
              cases x20
              · exact .inl ⟨by kernel_rfl, by kernel_rfl⟩
              · exact .inr ⟨by kernel_rfl, by kernel_rfl, Step.call0 (g := 46) (caps := []) (v := .pv (.int .i64 x21)) (by kernel_rfl) (by kernel_rfl) (by kernel_rfl) (tab_hit (by kernel_rfl)) (by kernel_rfl)⟩)) (RunR.puts 2 [(123, .pv (.bool (x20 && (x5.1 == x21)))), (122, (bif x20 then (.pv (.bool (x5.1 == x21))) else (.tup [])))] (by cases x20 <;> kernel_rfl) (RunR.dyn (Step.name (f := eBool) (e := (x20 && (x5.1 == x21))) (c := c22) (by kernel_rfl) hc22) (RunR.puts 2 [(126, .pv (.bool (c22 && x19))), (125, (bif c22 then (.pv (.bool x19)) else (.tup [])))] (by cases c22 <;> kernel_rfl) (RunR.all (by kernel_rfl))))))))) ?_
        refine W.keep rfl ?_
        cases h
        exact W.ret ((fin_ret (by kernel_rfl)))
end Go.Av.G
