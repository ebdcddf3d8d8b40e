/- What functions of the program compute, in plain words, and that they do: printed by a program of ours. -/
import Derived.Test.YtkcilagjhieapaaUhd
import Derived.Test.YtkcilagjhieapaaBins83
set_option linter.unusedVariables false
set_option linter.unusedSimpArgs false
set_option maxRecDepth 100000
set_option maxHeartbeats 8000000
namespace Go.Av.G
open Go Go.Av Go.Proofs
theorem slices_Clone84_ok {l r : List T_api_Hold} (h : slices_Clone 64 l = some r) : Contract Try.prog 84 [.pv (.slice (List.map T_api_Hold.pv l))] [] ⟨.own (.res 0), [some (.row 9 (List.map T_api_Hold.pv r))], []⟩ := by
  obtain ⟨hb, rfl⟩ := slices_Clone_spec h
  exact clone_row (P := Try.prog) Try.laysClone84 ((Try.prog.info? 77).getD default) ((((Try.prog.info? 77).getD default).zero).getD undef) 9 64 (by kernel_rfl) (by kernel_rfl) (by kernel_rfl) (by kernel_rfl) (by kernel_rfl) (by decide) Try.sizeOf77 ⟨Try.f84, Try.func84, by kernel_rfl, by kernel_rfl⟩ (fun _ => rfl) hb (by decide)
def pmoney_isr0 : List GOp := [⟨(some 2), none, .mov (.cst (.bool false))⟩]
def pmoney_isr1 : List GOp := [⟨(some 3), none, .mov (.tmp 0)⟩, ⟨(some 4), none, .bin false .geq (.tmp 3) (.cst (.int .i64 0))⟩, ⟨(some 5), none, .mov (.tmp 4)⟩, ⟨(some 6), (some (5, true)), .mov (.tmp 0)⟩, ⟨(some 7), (some (5, true)), .bin false .lss (.tmp 6) (.cst (.int .i64 4))⟩, ⟨(some 8), none, .pick (.tmp 5) (.tmp 7) (.cst (.bool false))⟩, ⟨(some 2), none, .mov (.tmp 8)⟩]
def pmoney_isb : AC := (.seq (.ops pmoney_isr0) (.seq (.ops pmoney_isr1) (.keep [] [(2, false)] [] [] [] .ret)))
def pmoney_is : Fd := ⟨1, [.tmp 2], [], pmoney_isb⟩
theorem pmoney_is_ag : agreeF Try.prog Try.f114 pmoney_is = true := by kernel_rfl
theorem money_is_ok {cur1 : Int} {r : Bool} (h : money_is cur1 = some r) : Contract Try.prog 114 [.pv (.int .i64 cur1)] [] ⟨.pv (.bool r), [], []⟩ := by
  refine contract_fin hm Try.func114 pmoney_is_ag (by kernel_rfl) ?_
  unfold money_is at h
  refine W.seqOps (RunR.all (by kernel_rfl)) ?_
  replace h := bindS h
  obtain ⟨c2, hc2, h⟩ := h
  refine W.seqOps (RunR.stat 2 (by kernel_rfl) (RunR.dyn (Step.name (f := eBool) (e := decide (cur1 ≥ 0)) (c := c2) (by kernel_rfl) hc2) (RunR.puts 3 [(8, .pv (.bool (c2 && (decide (cur1 < 4))))), (7, (bif c2 then (.pv (.bool (decide (cur1 < 4)))) else (.tup []))), (6, (bif c2 then (.pv (.int .i64 cur1)) else (.tup [])))] (by cases c2 <;> kernel_rfl) (RunR.all (by kernel_rfl))))) ?_
  refine W.keep rfl ?_
  cases h
  exact W.ret ((fin_ret (by kernel_rfl)))
def pmoney_Rightr0 : List GOp := [⟨(some 1), none, .box (.tmp 0)⟩, ⟨(some 2), none, .mov (.cst (.bool false))⟩]
def pmoney_Rightr1 : List GOp := [⟨(some 3), none, .fld 0 (.tmp 1)⟩, ⟨(some 4), none, .load false 1 (.tmp 3)⟩, ⟨(some 5), none, .call 0 0 (.cst (.fn 114)) [(.tmp 4)] [] []⟩, ⟨(some 6), none, .mov (.tmp 5)⟩, ⟨(some 7), (some (6, true)), .fld 1 (.tmp 1)⟩, ⟨(some 8), (some (6, true)), .load false 1 (.tmp 7)⟩, ⟨(some 9), (some (6, true)), .bin false .geq (.tmp 8) (.cst (.int .i64 (-1000000000000000)))⟩, ⟨(some 10), none, .pick (.tmp 6) (.tmp 9) (.cst (.bool false))⟩, ⟨(some 11), none, .mov (.tmp 10)⟩, ⟨(some 12), (some (11, true)), .fld 1 (.tmp 1)⟩, ⟨(some 13), (some (11, true)), .load false 1 (.tmp 12)⟩, ⟨(some 14), (some (11, true)), .bin false .leq (.tmp 13) (.cst (.int .i64 1000000000000000))⟩, ⟨(some 15), none, .pick (.tmp 11) (.tmp 14) (.cst (.bool false))⟩, ⟨(some 2), none, .mov (.tmp 15)⟩]
def pmoney_Rightb : AC := (.seq (.ops pmoney_Rightr0) (.seq (.ops pmoney_Rightr1) (.keep [] [(2, false)] [] [.loc 1 0] [] .ret)))
def pmoney_Right : Fd := ⟨1, [.tmp 2], [], pmoney_Rightb⟩
theorem pmoney_Right_ag : agreeF Try.prog Try.f85 pmoney_Right = true := by kernel_rfl
theorem money_Right_ok {m1 : T_api_Money} {r : Bool} (h : money_Right m1 = some r) : Contract Try.prog 85 [.pv (T_api_Money.pv m1)] [] ⟨.pv (.bool r), [], []⟩ := by
  refine contract_fin hm Try.func85 pmoney_Right_ag (by kernel_rfl) ?_
  unfold money_Right at h
  refine W.seqOps (RunR.all (by kernel_rfl)) ?_
  replace h := bindS h
  obtain ⟨x2, hx2, h⟩ := h
  replace h := bindS h
  obtain ⟨c3, hc3, h⟩ := h
  refine W.seqOps (RunR.stat 2 (by kernel_rfl) (RunR.cons (tab_cons (on := true) (fun _ => money_is_ok hx2) tab_nil) (Step.call0 (g := 114) (caps := []) (v := .pv (.bool x2)) (by kernel_rfl) (by kernel_rfl) (by kernel_rfl) (tab_hit (by kernel_rfl)) (by kernel_rfl)) (RunR.stat 1 (by kernel_rfl) (RunR.puts 4 [(10, .pv (.bool (x2 && (decide (m1.f_Minor ≥ (-1000000000000000)))))), (9, (bif x2 then (.pv (.bool (decide (m1.f_Minor ≥ (-1000000000000000))))) else (.tup []))), (8, (bif x2 then (.pv (.int .i64 m1.f_Minor)) else (.tup []))), (7, (bif x2 then (.ptr (.loc 1 0) 1) else (.tup [])))] (by cases x2 <;> kernel_rfl) (RunR.dyn (Step.name (f := eBool) (e := (x2 && (decide (m1.f_Minor ≥ (-1000000000000000))))) (c := c3) (by kernel_rfl) hc3) (RunR.puts 4 [(15, .pv (.bool (c3 && (decide (m1.f_Minor ≤ 1000000000000000))))), (14, (bif c3 then (.pv (.bool (decide (m1.f_Minor ≤ 1000000000000000)))) else (.tup []))), (13, (bif c3 then (.pv (.int .i64 m1.f_Minor)) else (.tup []))), (12, (bif c3 then (.ptr (.loc 1 0) 1) else (.tup [])))] (by cases c3 <;> kernel_rfl) (RunR.all (by kernel_rfl)))))))) ?_
  refine W.keep rfl ?_
  cases h
  exact W.ret ((fin_ret (by kernel_rfl)))
def pdate_Rightr0 : List GOp := [⟨(some 2), none, .mov (.cst (.bool false))⟩]
def pdate_Rightr1 : List GOp := [⟨(some 3), none, .mov (.tmp 0)⟩, ⟨(some 4), none, .bin false .geq (.tmp 3) (.cst (.int .i32 (-50000)))⟩, ⟨(some 5), none, .mov (.tmp 4)⟩, ⟨(some 6), (some (5, true)), .mov (.tmp 0)⟩, ⟨(some 7), (some (5, true)), .bin false .leq (.tmp 6) (.cst (.int .i32 50000))⟩, ⟨(some 8), none, .pick (.tmp 5) (.tmp 7) (.cst (.bool false))⟩, ⟨(some 2), none, .mov (.tmp 8)⟩]
def pdate_Rightb : AC := (.seq (.ops pdate_Rightr0) (.seq (.ops pdate_Rightr1) (.keep [] [(2, false)] [] [] [] .ret)))
def pdate_Right : Fd := ⟨1, [.tmp 2], [], pdate_Rightb⟩
theorem pdate_Right_ag : agreeF Try.prog Try.f64 pdate_Right = true := by kernel_rfl
theorem date_Right_ok {d1 : Int} {r : Bool} (h : date_Right d1 = some r) : Contract Try.prog 64 [.pv (.int .i32 d1)] [] ⟨.pv (.bool r), [], []⟩ := by
  refine contract_fin hm Try.func64 pdate_Right_ag (by kernel_rfl) ?_
  unfold date_Right at h
  refine W.seqOps (RunR.all (by kernel_rfl)) ?_
  replace h := bindS h
  obtain ⟨c2, hc2, h⟩ := h
  refine W.seqOps (RunR.stat 2 (by kernel_rfl) (RunR.dyn (Step.name (f := eBool) (e := decide (d1 ≥ (-50000))) (c := c2) (by kernel_rfl) hc2) (RunR.puts 3 [(8, .pv (.bool (c2 && (decide (d1 ≤ 50000))))), (7, (bif c2 then (.pv (.bool (decide (d1 ≤ 50000)))) else (.tup []))), (6, (bif c2 then (.pv (.int .i32 d1)) else (.tup [])))] (by cases c2 <;> kernel_rfl) (RunR.all (by kernel_rfl))))) ?_
  refine W.keep rfl ?_
  cases h
  exact W.ret ((fin_ret (by kernel_rfl)))
def phold_rightr0 : List GOp := [⟨(some 1), none, .box (.tmp 0)⟩, ⟨(some 2), none, .mov (.cst (.bool false))⟩]
def phold_rightr1 : List GOp := [⟨(some 5), none, .fld 0 (.tmp 1)⟩, ⟨(some 6), none, .load false 1 (.tmp 5)⟩, ⟨(some 7), none, .bin false .geq (.tmp 6) (.cst (.int .i64 1))⟩, ⟨(some 8), none, .mov (.tmp 7)⟩, ⟨(some 9), (some (8, true)), .fld 0 (.tmp 1)⟩, ⟨(some 10), (some (8, true)), .load false 1 (.tmp 9)⟩, ⟨(some 11), (some (8, true)), .bin false .leq (.tmp 10) (.cst (.int .i64 1000000))⟩, ⟨(some 12), none, .pick (.tmp 8) (.tmp 11) (.cst (.bool false))⟩, ⟨(some 13), none, .mov (.tmp 12)⟩, ⟨(some 14), (some (13, true)), .fld 1 (.tmp 1)⟩, ⟨(some 15), (some (13, true)), .load false 1 (.tmp 14)⟩, ⟨(some 16), (some (13, true)), .bin false .geq (.tmp 15) (.cst (.int .i64 1))⟩, ⟨(some 17), none, .pick (.tmp 13) (.tmp 16) (.cst (.bool false))⟩, ⟨(some 18), none, .mov (.tmp 17)⟩, ⟨(some 19), (some (18, true)), .fld 1 (.tmp 1)⟩, ⟨(some 20), (some (18, true)), .load false 1 (.tmp 19)⟩, ⟨(some 21), (some (18, true)), .bin false .leq (.tmp 20) (.cst (.int .i64 999))⟩, ⟨(some 22), none, .pick (.tmp 18) (.tmp 21) (.cst (.bool false))⟩, ⟨(some 23), none, .mov (.tmp 22)⟩, ⟨(some 24), (some (23, true)), .fld 4 (.tmp 1)⟩, ⟨(some 25), (some (23, true)), .load false 1 (.tmp 24)⟩, ⟨(some 26), (some (23, true)), .bin false .geq (.tmp 25) (.cst (.int .i64 0))⟩, ⟨(some 27), none, .pick (.tmp 23) (.tmp 26) (.cst (.bool false))⟩, ⟨(some 28), none, .mov (.tmp 27)⟩, ⟨(some 29), (some (28, true)), .fld 4 (.tmp 1)⟩, ⟨(some 30), (some (28, true)), .load false 1 (.tmp 29)⟩, ⟨(some 31), (some (28, true)), .bin false .leq (.tmp 30) (.cst (.int .i64 9))⟩, ⟨(some 32), none, .pick (.tmp 28) (.tmp 31) (.cst (.bool false))⟩, ⟨(some 3), none, .mov (.tmp 32)⟩]
def phold_rightr2 : List GOp := [⟨(some 33), none, .fld 2 (.tmp 1)⟩, ⟨(some 34), none, .load true 2 (.tmp 33)⟩, ⟨(some 35), none, .call 0 0 (.cst (.fn 85)) [(.tmp 34)] [] []⟩, ⟨(some 36), none, .mov (.tmp 35)⟩, ⟨(some 37), (some (36, true)), .fld 2 (.tmp 1)⟩, ⟨(some 38), (some (36, true)), .fld 1 (.tmp 37)⟩, ⟨(some 39), (some (36, true)), .load false 1 (.tmp 38)⟩, ⟨(some 40), (some (36, true)), .bin false .gtr (.tmp 39) (.cst (.int .i64 0))⟩, ⟨(some 41), none, .pick (.tmp 36) (.tmp 40) (.cst (.bool false))⟩, ⟨(some 42), none, .mov (.tmp 41)⟩, ⟨(some 43), (some (42, true)), .fld 7 (.tmp 1)⟩, ⟨(some 44), (some (42, true)), .load false 1 (.tmp 43)⟩, ⟨(some 45), (some (42, true)), .bin false .geq (.tmp 44) (.cst (.int .i64 0))⟩, ⟨(some 46), none, .pick (.tmp 42) (.tmp 45) (.cst (.bool false))⟩, ⟨(some 47), none, .mov (.tmp 46)⟩, ⟨(some 48), (some (47, true)), .fld 7 (.tmp 1)⟩, ⟨(some 49), (some (47, true)), .load false 1 (.tmp 48)⟩, ⟨(some 50), (some (47, true)), .fld 2 (.tmp 1)⟩, ⟨(some 51), (some (47, true)), .fld 1 (.tmp 50)⟩, ⟨(some 52), (some (47, true)), .load false 1 (.tmp 51)⟩, ⟨(some 53), (some (47, true)), .bin false .leq (.tmp 49) (.tmp 52)⟩, ⟨(some 54), none, .pick (.tmp 47) (.tmp 53) (.cst (.bool false))⟩, ⟨(some 4), none, .mov (.tmp 54)⟩]
def phold_rightr3 : List GOp := [⟨(some 55), none, .mov (.tmp 3)⟩, ⟨(some 56), none, .mov (.tmp 55)⟩, ⟨(some 57), (some (56, true)), .mov (.tmp 4)⟩, ⟨(some 58), none, .pick (.tmp 56) (.tmp 57) (.cst (.bool false))⟩, ⟨(some 59), none, .mov (.tmp 58)⟩, ⟨(some 60), (some (59, true)), .fld 5 (.tmp 1)⟩, ⟨(some 61), (some (59, true)), .load false 1 (.tmp 60)⟩, ⟨(some 62), (some (59, true)), .call 0 0 (.cst (.fn 64)) [(.tmp 61)] [] []⟩, ⟨(some 63), none, .pick (.tmp 59) (.tmp 62) (.cst (.bool false))⟩, ⟨(some 64), none, .mov (.tmp 63)⟩, ⟨(some 65), (some (64, true)), .fld 6 (.tmp 1)⟩, ⟨(some 66), (some (64, true)), .load false 1 (.tmp 65)⟩, ⟨(some 67), (some (64, true)), .call 0 0 (.cst (.fn 64)) [(.tmp 66)] [] []⟩, ⟨(some 68), none, .pick (.tmp 64) (.tmp 67) (.cst (.bool false))⟩, ⟨(some 69), none, .mov (.tmp 68)⟩, ⟨(some 70), (some (69, true)), .fld 5 (.tmp 1)⟩, ⟨(some 71), (some (69, true)), .load false 1 (.tmp 70)⟩, ⟨(some 72), (some (69, true)), .fld 6 (.tmp 1)⟩, ⟨(some 73), (some (69, true)), .load false 1 (.tmp 72)⟩, ⟨(some 74), (some (69, true)), .bin false .leq (.tmp 71) (.tmp 73)⟩, ⟨(some 75), none, .pick (.tmp 69) (.tmp 74) (.cst (.bool false))⟩, ⟨(some 2), none, .mov (.tmp 75)⟩]
def phold_rightb : AC := (.seq (.ops phold_rightr0) (.seq (.ops phold_rightr1) (.seq (.ops phold_rightr2) (.seq (.ops phold_rightr3) (.keep [] [(2, false)] [] [.loc 1 0] [] .ret)))))
def phold_right : Fd := ⟨1, [.tmp 2], [], phold_rightb⟩
theorem phold_right_ag : agreeF Try.prog Try.f74 phold_right = true := by kernel_rfl
theorem hold_right_ok {h1 : T_api_Hold} {r : Bool} (h : hold_right h1 = some r) : Contract Try.prog 74 [.pv (T_api_Hold.pv h1)] [] ⟨.pv (.bool r), [], []⟩ := by
  refine contract_fin hm Try.func74 phold_right_ag (by kernel_rfl) ?_
  unfold hold_right at h
  refine W.seqOps (RunR.all (by kernel_rfl)) ?_
  replace h := bindS h
  obtain ⟨c2, hc2, h⟩ := h
  replace h := bindS h
  obtain ⟨c3, hc3, h⟩ := h
  replace h := bindS h
  obtain ⟨c4, hc4, h⟩ := h
  replace h := bindS h
  obtain ⟨c5, hc5, h⟩ := h
  replace h := bindS h
  obtain ⟨c6, hc6, h⟩ := h
  refine W.seqOps (RunR.stat 3 (by kernel_rfl) (RunR.dyn (Step.name (f := eBool) (e := decide (h1.f_ID ≥ 1)) (c := c2) (by kernel_rfl) hc2) (RunR.puts 4 [(12, .pv (.bool (c2 && (decide (h1.f_ID ≤ 1000000))))), (11, (bif c2 then (.pv (.bool (decide (h1.f_ID ≤ 1000000)))) else (.tup []))), (10, (bif c2 then (.pv (.int .i64 h1.f_ID)) else (.tup []))), (9, (bif c2 then (.ptr (.loc 1 0) 0) else (.tup [])))] (by cases c2 <;> kernel_rfl) (RunR.dyn (Step.name (f := eBool) (e := (c2 && (decide (h1.f_ID ≤ 1000000)))) (c := c3) (by kernel_rfl) hc3) (RunR.puts 4 [(17, .pv (.bool (c3 && (decide (h1.f_Acc ≥ 1))))), (16, (bif c3 then (.pv (.bool (decide (h1.f_Acc ≥ 1)))) else (.tup []))), (15, (bif c3 then (.pv (.int .i64 h1.f_Acc)) else (.tup []))), (14, (bif c3 then (.ptr (.loc 1 0) 1) else (.tup [])))] (by cases c3 <;> kernel_rfl) (RunR.dyn (Step.name (f := eBool) (e := (c3 && (decide (h1.f_Acc ≥ 1)))) (c := c4) (by kernel_rfl) hc4) (RunR.puts 4 [(22, .pv (.bool (c4 && (decide (h1.f_Acc ≤ 999))))), (21, (bif c4 then (.pv (.bool (decide (h1.f_Acc ≤ 999)))) else (.tup []))), (20, (bif c4 then (.pv (.int .i64 h1.f_Acc)) else (.tup []))), (19, (bif c4 then (.ptr (.loc 1 0) 1) else (.tup [])))] (by cases c4 <;> kernel_rfl) (RunR.dyn (Step.name (f := eBool) (e := (c4 && (decide (h1.f_Acc ≤ 999)))) (c := c5) (by kernel_rfl) hc5) (RunR.puts 4 [(27, .pv (.bool (c5 && (decide (h1.f_Rank ≥ 0))))), (26, (bif c5 then (.pv (.bool (decide (h1.f_Rank ≥ 0)))) else (.tup []))), (25, (bif c5 then (.pv (.int .i64 h1.f_Rank)) else (.tup []))), (24, (bif c5 then (.ptr (.loc 1 0) 4) else (.tup [])))] (by cases c5 <;> kernel_rfl) (RunR.dyn (Step.name (f := eBool) (e := (c5 && (decide (h1.f_Rank ≥ 0)))) (c := c6) (by kernel_rfl) hc6) (RunR.puts 4 [(32, .pv (.bool (c6 && (decide (h1.f_Rank ≤ 9))))), (31, (bif c6 then (.pv (.bool (decide (h1.f_Rank ≤ 9)))) else (.tup []))), (30, (bif c6 then (.pv (.int .i64 h1.f_Rank)) else (.tup []))), (29, (bif c6 then (.ptr (.loc 1 0) 4) else (.tup [])))] (by cases c6 <;> kernel_rfl) (RunR.all (by kernel_rfl))))))))))))) ?_
  replace h := bindS h
  obtain ⟨x7, hx7, h⟩ := h
  replace h := bindS h
  obtain ⟨c8, hc8, h⟩ := h
  replace h := bindS h
  obtain ⟨c9, hc9, h⟩ := h
  refine W.seqOps (RunR.stat 2 (by kernel_rfl) (RunR.cons (tab_cons (on := true) (fun _ => money_Right_ok hx7) tab_nil) (Step.call0 (g := 85) (caps := []) (v := .pv (.bool x7)) (by kernel_rfl) (by kernel_rfl) (by kernel_rfl) (tab_hit (by kernel_rfl)) (by kernel_rfl)) (RunR.stat 1 (by kernel_rfl) (RunR.puts 5 [(41, .pv (.bool (x7 && (decide (h1.f_Amount.f_Minor > 0))))), (40, (bif x7 then (.pv (.bool (decide (h1.f_Amount.f_Minor > 0)))) else (.tup []))), (39, (bif x7 then (.pv (.int .i64 h1.f_Amount.f_Minor)) else (.tup []))), (38, (bif x7 then (.ptr (.loc 1 0) 3) else (.tup []))), (37, (bif x7 then (.ptr (.loc 1 0) 2) else (.tup [])))] (by cases x7 <;> kernel_rfl) (RunR.dyn (Step.name (f := eBool) (e := (x7 && (decide (h1.f_Amount.f_Minor > 0)))) (c := c8) (by kernel_rfl) hc8) (RunR.puts 4 [(46, .pv (.bool (c8 && (decide (h1.f_Taken ≥ 0))))), (45, (bif c8 then (.pv (.bool (decide (h1.f_Taken ≥ 0)))) else (.tup []))), (44, (bif c8 then (.pv (.int .i64 h1.f_Taken)) else (.tup []))), (43, (bif c8 then (.ptr (.loc 1 0) 7) else (.tup [])))] (by cases c8 <;> kernel_rfl) (RunR.dyn (Step.name (f := eBool) (e := (c8 && (decide (h1.f_Taken ≥ 0)))) (c := c9) (by kernel_rfl) hc9) (RunR.puts 7 [(54, .pv (.bool (c9 && (decide (h1.f_Taken ≤ h1.f_Amount.f_Minor))))), (53, (bif c9 then (.pv (.bool (decide (h1.f_Taken ≤ h1.f_Amount.f_Minor)))) else (.tup []))), (52, (bif c9 then (.pv (.int .i64 h1.f_Amount.f_Minor)) else (.tup []))), (51, (bif c9 then (.ptr (.loc 1 0) 3) else (.tup []))), (50, (bif c9 then (.ptr (.loc 1 0) 2) else (.tup []))), (49, (bif c9 then (.pv (.int .i64 h1.f_Taken)) else (.tup []))), (48, (bif c9 then (.ptr (.loc 1 0) 7) else (.tup [])))] (by cases c9 <;> kernel_rfl) (RunR.all (by kernel_rfl)))))))))) ?_
  replace h := bindS h
  obtain ⟨c10, hc10, h⟩ := h
  replace h := bindS h
  obtain ⟨c11, hc11, h⟩ := h
  replace h := bindS h
  obtain ⟨x12, hx12, h⟩ := h
  replace h := bindS h
  obtain ⟨c13, hc13, h⟩ := h
  replace h := bindS h
  obtain ⟨x14, hx14, h⟩ := h
  replace h := bindS h
  obtain ⟨c15, hc15, h⟩ := h
  refine W.seqOps (RunR.stat 1 (by kernel_rfl) (RunR.dyn (Step.name (f := eBool) (e := (c6 && (decide (h1.f_Rank ≤ 9)))) (c := c10) (by kernel_rfl) hc10) (RunR.puts 2 [(58, .pv (.bool (c10 && (c9 && (decide (h1.f_Taken ≤ h1.f_Amount.f_Minor)))))), (57, (bif c10 then (.pv (.bool (c9 && (decide (h1.f_Taken ≤ h1.f_Amount.f_Minor))))) else (.tup [])))] (by cases c10 <;> kernel_rfl) (RunR.dyn (Step.name (f := eBool) (e := (c10 && (c9 && (decide (h1.f_Taken ≤ h1.f_Amount.f_Minor))))) (c := c11) (by kernel_rfl) hc11) (RunR.puts 2 [(61, (bif c11 then (.pv (.int .i32 h1.f_Made)) else (.tup []))), (60, (bif c11 then (.ptr (.loc 1 0) 5) else (.tup [])))] (by cases c11 <;> kernel_rfl) (RunR.cons (tab_cons (on := c11) (fun hg => date_Right_ok (gdO_at hg hx12)) tab_nil) (Step.gdG c11 (by kernel_rfl) (by
        cases c11
        · exact .inl ⟨by kernel_rfl, by kernel_rfl⟩
        · exact .inr ⟨by kernel_rfl, by kernel_rfl, Step.call0 (g := 64) (caps := []) (v := .pv (.bool x12)) (by kernel_rfl) (by kernel_rfl) (by kernel_rfl) (tab_hit (by kernel_rfl)) (by kernel_rfl)⟩)) (RunR.puts 1 [(63, .pv (.bool (c11 && x12)))] (by cases c11 <;> kernel_rfl) (RunR.dyn (Step.name (f := eBool) (e := (c11 && x12)) (c := c13) (by kernel_rfl) hc13) (RunR.puts 2 [(66, (bif c13 then (.pv (.int .i32 h1.f_Until)) else (.tup []))), (65, (bif c13 then (.ptr (.loc 1 0) 6) else (.tup [])))] (by cases c13 <;> kernel_rfl) (RunR.cons (tab_cons (on := c13) (fun hg => date_Right_ok (gdO_at hg hx14)) tab_nil) (Step.gdG c13 (by kernel_rfl) (by
        cases c13
        · exact .inl ⟨by kernel_rfl, by kernel_rfl⟩
        · exact .inr ⟨by kernel_rfl, by kernel_rfl, Step.call0 (g := 64) (caps := []) (v := .pv (.bool x14)) (by kernel_rfl) (by kernel_rfl) (by kernel_rfl) (tab_hit (by kernel_rfl)) (by kernel_rfl)⟩)) (RunR.puts 1 [(68, .pv (.bool (c13 && x14)))] (by cases c13 <;> kernel_rfl) (RunR.dyn (Step.name (f := eBool) (e := (c13 && x14)) (c := c15) (by kernel_rfl) hc15) (RunR.puts 6 [(75, .pv (.bool (c15 && (decide (h1.f_Made ≤ h1.f_Until))))), (74, (bif c15 then (.pv (.bool (decide (h1.f_Made ≤ h1.f_Until)))) else (.tup []))), (73, (bif c15 then (.pv (.int .i32 h1.f_Until)) else (.tup []))), (72, (bif c15 then (.ptr (.loc 1 0) 6) else (.tup []))), (71, (bif c15 then (.pv (.int .i32 h1.f_Made)) else (.tup []))), (70, (bif c15 then (.ptr (.loc 1 0) 5) else (.tup [])))] (by cases c15 <;> kernel_rfl) (RunR.all (by kernel_rfl))))))))))))))) ?_
  refine W.keep rfl ?_
  cases h
  exact W.ret ((fin_ret (by kernel_rfl)))
def phold_Check_1r0 : List GOp := [⟨(some 1), none, .box (.tmp 0)⟩, ⟨(some 2), none, .mov (.cst (.bool false))⟩]
def phold_Check_1r1 : List GOp := [⟨(some 3), none, .load true 9 (.tmp 1)⟩, ⟨(some 4), none, .call 0 0 (.cst (.fn 74)) [(.tmp 3)] [] []⟩, ⟨(some 5), none, .un .not (.tmp 4)⟩, ⟨(some 2), none, .mov (.tmp 5)⟩]
def phold_Check_1b : AC := (.seq (.ops phold_Check_1r0) (.seq (.ops phold_Check_1r1) (.keep [] [(2, false)] [] [.loc 1 0] [] .ret)))
def phold_Check_1 : Fd := ⟨1, [.tmp 2], [], phold_Check_1b⟩
theorem phold_Check_1_ag : agreeF Try.prog Try.f73 phold_Check_1 = true := by kernel_rfl
theorem hold_Check_1_ok {h1 : T_api_Hold} {r : Bool} (h : hold_Check_1 h1 = some r) : Contract Try.prog 73 [.pv (T_api_Hold.pv h1)] [] ⟨.pv (.bool r), [], []⟩ := by
  refine contract_fin hm Try.func73 phold_Check_1_ag (by kernel_rfl) ?_
  unfold hold_Check_1 at h
  refine W.seqOps (RunR.all (by kernel_rfl)) ?_
  replace h := bindS h
  obtain ⟨x2, hx2, h⟩ := h
  refine W.seqOps (RunR.stat 1 (by kernel_rfl) (RunR.cons (tab_cons (on := true) (fun _ => hold_right_ok hx2) tab_nil) (Step.call0 (g := 74) (caps := []) (v := .pv (.bool x2)) (by kernel_rfl) (by kernel_rfl) (by kernel_rfl) (tab_hit (by kernel_rfl)) (by kernel_rfl)) (RunR.all (by kernel_rfl)))) ?_
  refine W.keep rfl ?_
  cases h
  exact W.ret ((fin_ret (by kernel_rfl)))
def pslices_IndexFunc_Hold_Holdr0 : List GOp := [⟨(some 4), none, .mov (.cst (.int .i64 0))⟩]
def pslices_IndexFunc_Hold_Holdr1 : List GOp := [⟨(some 6), none, .mov (.tmp 0)⟩, ⟨(some 7), none, .len false (.tmp 6)⟩, ⟨(some 8), none, .mov (.cst (.int .i64 0))⟩]
def pslices_IndexFunc_Hold_Holdr2 : List GOp := [⟨(some 9), none, .bin false .lss (.tmp 8) (.tmp 7)⟩]
def pslices_IndexFunc_Hold_Holdr3 : List GOp := [⟨(some 10), none, .mov (.tmp 8)⟩, ⟨(some 5), none, .mov (.tmp 10)⟩]
def pslices_IndexFunc_Hold_Holdr4 : List GOp := [⟨(some 11), none, .mov (.tmp 1)⟩, ⟨(some 12), none, .mov (.tmp 0)⟩, ⟨(some 13), none, .mov (.tmp 5)⟩, ⟨(some 14), none, .idx 9 (.tmp 12) (.tmp 13)⟩, ⟨(some 15), none, .load true 9 (.tmp 14)⟩, ⟨(some 16), none, .call 0 0 (.tmp 11) [(.tmp 15)] [] []⟩]
def pslices_IndexFunc_Hold_Holdr5 : List GOp := [⟨(some 17), none, .mov (.tmp 5)⟩, ⟨(some 4), none, .mov (.tmp 17)⟩]
def pslices_IndexFunc_Hold_Holdr6 : List GOp := [⟨(some 18), none, .bin false .add (.tmp 8) (.cst (.int .i64 1))⟩, ⟨(some 8), none, .mov (.tmp 18)⟩]
def pslices_IndexFunc_Hold_Holdl7 : AC := (.keep [] [(0, false), (1, false), (7, false), (8, false)] [] [] [] (.seq (.ops pslices_IndexFunc_Hold_Holdr2) (.seq (.cond (.tmp 9) .skip (.exit 0)) (.seq (.pass 1 (.seq (.ops pslices_IndexFunc_Hold_Holdr3) (.seq (.ops pslices_IndexFunc_Hold_Holdr4) (.cond (.tmp 16) (.seq (.ops pslices_IndexFunc_Hold_Holdr5) (.keep [] [(4, false)] [] [] [] .ret)) .skip)))) (.ops pslices_IndexFunc_Hold_Holdr6)))))
def pslices_IndexFunc_Hold_Holdr8 : List GOp := [⟨(some 4), none, .mov (.cst (.int .i64 (-1)))⟩]
def pslices_IndexFunc_Hold_Holdb : AC := (.seq (.ops pslices_IndexFunc_Hold_Holdr0) (.seq (.seq (.ops pslices_IndexFunc_Hold_Holdr1) (.block 0 (.loop [0, 1, 7, 8] [] pslices_IndexFunc_Hold_Holdl7))) (.seq (.keep [] [] [] [] [] (.ops pslices_IndexFunc_Hold_Holdr8)) (.keep [] [(4, false)] [] [] [] .ret))))
def pslices_IndexFunc_Hold_Hold : Fd := ⟨2, [.tmp 4], [], pslices_IndexFunc_Hold_Holdb⟩
theorem pslices_IndexFunc_Hold_Hold_ag : agreeF Try.prog Try.f105 pslices_IndexFunc_Hold_Hold = true := by kernel_rfl
theorem slices_IndexFunc_Hold_Hold_ok {s1 : List T_api_Hold} {r : Int} (h : slices_IndexFunc_Hold_Hold s1 = some r) : Contract Try.prog 105 [.pv (.slice (List.map T_api_Hold.pv s1)), .pv (.fn 73)] [] ⟨.pv (.int .i64 r), [], []⟩ := by
  refine contract_fin hm Try.func105 pslices_IndexFunc_Hold_Hold_ag (by kernel_rfl) ?_
  unfold slices_IndexFunc_Hold_Hold at h
  refine W.seqOps (RunR.all (by kernel_rfl)) ?_
  refine W.assoc ?_
  refine W.seqOps (RunR.stat 1 (by kernel_rfl) (RunR.dyn (Step.lenT (f := T_api_Hold.pv) (l := s1) (by kernel_rfl)) (RunR.all (by kernel_rfl)))) ?_
  replace h := bindS h
  obtain ⟨j2, hj2, h⟩ := h
  refine W.joinOut (j := j2) (o := r) (fun p σ => σ.tidy [] [] [] [] [] = ⟨[], []⟩) ?_ (fun p σj2 hp hsj2 => ?_) (fun p hp => ?_)
  · refine W.blockLoopO (fun q σ => ((σ.forget [0, 1, 7, 8]).killAll []).tidy [] [(0, false), (1, false), (7, false), (8, false)] [] [] [] = ⟨[(0, .pv (.slice (List.map T_api_Hold.pv s1))), (1, .pv (.fn 73)), (7, .pv (.int .i64 (s1.length : Int))), (8, .pv (.int .i64 q))], []⟩) hj2 ?_ ?_
    · show _ = _
      kernel_rfl
    · intro x3 σj2 oj2 hJj2 h
      refine W.keep hJj2 ?_
      refine W.seqOps (RunR.all (by kernel_rfl)) ?_
      refine W.seqCond (t := decide (x3 < (s1.length : Int))) (by kernel_rfl) h (fun hc h' => ?_) (fun hc h' => ?_)
      · replace h := h'
        refine W.seqSkip ?_
        refine W.seqPass ?_
        refine W.assoc ?_
        refine W.seqOps (RunR.all (by kernel_rfl)) ?_
        refine W.assoc ?_
        replace h := bindS h
        obtain ⟨x4, hx4, h⟩ := h
        replace h := bindS h
        obtain ⟨x5, hx5, h⟩ := h
        refine W.seqOps (RunR.stat 3 (by kernel_rfl) (RunR.dyn (Step.idxT (f := T_api_Hold.pv) (l := s1) (n := x3) (e := x4) (k := .i64) (by kernel_rfl) (by kernel_rfl) hx4 (by kernel_rfl)) (RunR.stat 1 (by kernel_rfl) (RunR.cons (tab_cons (on := true) (fun _ => hold_Check_1_ok hx5) tab_nil) (Step.call0 (g := 73) (caps := []) (v := .pv (.bool x5)) (by kernel_rfl) (by kernel_rfl) (by kernel_rfl) (tab_hit (by kernel_rfl)) (by kernel_rfl)) ((.nil _)))))) ?_
        refine W.seqCond (t := x5) (by kernel_rfl) h (fun hc h' => ?_) (fun hc h' => ?_)
        · replace h := h'
          refine W.assoc ?_
          refine W.seqOps (RunR.all (by kernel_rfl)) ?_
          refine W.seqKeep rfl ?_
          cases h
          exact W.seqRet ((outw_out ret_ne (bout_o ret_ne ret_ne' (fun e => by subst e; exact (fin_ret (by kernel_rfl))))))
        · replace h := h'
          refine W.seqSkip ?_
          refine W.ops (RunR.all (by kernel_rfl)) ?_
          cases h
          exact (outw_in (by (show _ = _); kernel_rfl))
      · replace h := h'
        cases h
        exact W.seqExit ((outw_out exit_ne (bout_x (by (show _ = _); kernel_rfl))))
  · subst hp
    obtain ⟨⟩ := p
    refine W.seqKeep hsj2 ?_
    refine W.seqOps (RunR.all (by kernel_rfl)) ?_
    refine W.keep rfl ?_
    cases h
    exact W.ret ((fin_ret (by kernel_rfl)))
  · subst hp
    exact Option.some.inj h
def pslices_ContainsFunc_Hold_Holdr0 : List GOp := [⟨(some 4), none, .mov (.cst (.bool false))⟩]
def pslices_ContainsFunc_Hold_Holdr1 : List GOp := [⟨(some 5), none, .mov (.tmp 0)⟩, ⟨(some 6), none, .mov (.tmp 1)⟩, ⟨(some 7), none, .call 0 0 (.cst (.fn 105)) [(.tmp 5), (.tmp 6)] [] []⟩, ⟨(some 8), none, .bin false .geq (.tmp 7) (.cst (.int .i64 0))⟩, ⟨(some 4), none, .mov (.tmp 8)⟩]
def pslices_ContainsFunc_Hold_Holdb : AC := (.seq (.ops pslices_ContainsFunc_Hold_Holdr0) (.seq (.ops pslices_ContainsFunc_Hold_Holdr1) (.keep [] [(4, false)] [] [] [] .ret)))
def pslices_ContainsFunc_Hold_Hold : Fd := ⟨2, [.tmp 4], [], pslices_ContainsFunc_Hold_Holdb⟩
theorem pslices_ContainsFunc_Hold_Hold_ag : agreeF Try.prog Try.f75 pslices_ContainsFunc_Hold_Hold = true := by kernel_rfl
theorem slices_ContainsFunc_Hold_Hold_ok {s1 : List T_api_Hold} {r : Bool} (h : slices_ContainsFunc_Hold_Hold s1 = some r) : Contract Try.prog 75 [.pv (.slice (List.map T_api_Hold.pv s1)), .pv (.fn 73)] [] ⟨.pv (.bool r), [], []⟩ := by
  refine contract_fin hm Try.func75 pslices_ContainsFunc_Hold_Hold_ag (by kernel_rfl) ?_
  unfold slices_ContainsFunc_Hold_Hold at h
  refine W.seqOps (RunR.all (by kernel_rfl)) ?_
  replace h := bindS h
  obtain ⟨x2, hx2, h⟩ := h
  refine W.seqOps (RunR.stat 2 (by kernel_rfl) (RunR.cons (tab_cons (on := true) (fun _ => slices_IndexFunc_Hold_Hold_ok hx2) tab_nil) (Step.call0 (g := 105) (caps := []) (v := .pv (.int .i64 x2)) (by kernel_rfl) (by kernel_rfl) (by kernel_rfl) (tab_hit (by kernel_rfl)) (by kernel_rfl)) (RunR.all (by kernel_rfl)))) ?_
  refine W.keep rfl ?_
  cases h
  exact W.ret ((fin_ret (by kernel_rfl)))
def phold_Checkr0 : List GOp := [⟨(some 2), none, .mov (.cst (.int .i64 0))⟩]
def phold_Checkr1 : List GOp := [⟨(some 3), none, .mov (.cst (.fn 73))⟩]
def phold_Checkr2 : List GOp := [⟨(some 5), none, .mov (.tmp 0)⟩, ⟨(some 6), none, .mov (.tmp 3)⟩, ⟨(some 7), none, .call 0 0 (.cst (.fn 75)) [(.tmp 5), (.tmp 6)] [] []⟩]
def phold_Checkr3 : List GOp := [⟨(some 2), none, .mov (.cst (.int .i64 1))⟩]
def phold_Checkr4 : List GOp := [⟨(some 4), none, .mov (.cst (.int .i64 1))⟩]
def phold_Checkr5 : List GOp := [⟨(some 8), none, .mov (.tmp 4)⟩, ⟨(some 9), none, .mov (.tmp 0)⟩, ⟨(some 10), none, .len false (.tmp 9)⟩, ⟨(some 11), none, .bin false .lss (.tmp 8) (.tmp 10)⟩]
def phold_Checkr6 : List GOp := [⟨(some 14), none, .mov (.tmp 0)⟩, ⟨(some 15), none, .mov (.tmp 4)⟩, ⟨(some 16), none, .bin false .sub (.tmp 15) (.cst (.int .i64 1))⟩, ⟨(some 17), none, .idx 9 (.tmp 14) (.tmp 16)⟩, ⟨(some 18), none, .fld 0 (.tmp 17)⟩, ⟨(some 19), none, .load false 1 (.tmp 18)⟩, ⟨(some 20), none, .mov (.tmp 0)⟩, ⟨(some 21), none, .mov (.tmp 4)⟩, ⟨(some 22), none, .idx 9 (.tmp 20) (.tmp 21)⟩, ⟨(some 23), none, .fld 0 (.tmp 22)⟩, ⟨(some 24), none, .load false 1 (.tmp 23)⟩, ⟨(some 25), none, .bin false .geq (.tmp 19) (.tmp 24)⟩]
def phold_Checkr7 : List GOp := [⟨(some 2), none, .mov (.cst (.int .i64 20))⟩]
def phold_Checkr8 : List GOp := [⟨(some 12), none, .mov (.tmp 4)⟩, ⟨(some 13), none, .bin false .add (.tmp 12) (.cst (.int .i64 1))⟩, ⟨(some 4), none, .mov (.tmp 13)⟩]
def phold_Checkl9 : AC := (.keep [] [(0, false), (4, false)] [] [] [] (.seq (.seq (.ops phold_Checkr5) (.cond (.tmp 11) .skip (.exit 0))) (.seq (.pass 1 (.seq (.draw [] phold_Checkr6) (.cond (.tmp 25) (.seq (.ops phold_Checkr7) (.keep [] [(2, false)] [] [] [] .ret)) .skip))) (.ops phold_Checkr8))))
def phold_Checkr10 : List GOp := [⟨(some 26), none, .mov (.tmp 0)⟩, ⟨(some 27), none, .len false (.tmp 26)⟩, ⟨(some 28), none, .bin false .gtr (.tmp 27) (.cst (.int .i64 200))⟩]
def phold_Checkr11 : List GOp := [⟨(some 2), none, .mov (.cst (.int .i64 6))⟩]
def phold_Checkr12 : List GOp := [⟨(some 2), none, .mov (.cst (.int .i64 0))⟩]
def phold_Checkb : AC := (.seq (.ops phold_Checkr0) (.seq (.ops phold_Checkr1) (.seq (.seq (.ops phold_Checkr2) (.cond (.tmp 7) (.seq (.ops phold_Checkr3) (.keep [] [(2, false)] [] [] [] .ret)) .skip)) (.seq (.seq (.ops phold_Checkr4) (.block 0 (.loop [0, 4] [] phold_Checkl9))) (.seq (.seq (.keep [] [(0, false)] [] [] [] (.ops phold_Checkr10)) (.cond (.tmp 28) (.seq (.ops phold_Checkr11) (.keep [] [(2, false)] [] [] [] .ret)) .skip)) (.seq (.ops phold_Checkr12) (.keep [] [(2, false)] [] [] [] .ret)))))))
def phold_Check : Fd := ⟨1, [.tmp 2], [], phold_Checkb⟩
theorem phold_Check_ag : agreeF Try.prog Try.f36 phold_Check = true := by kernel_rfl
theorem hold_Check_ok {l1 : List T_api_Hold} {r : Int} (h : hold_Check l1 = some r) : Contract Try.prog 36 [.pv (.slice (List.map T_api_Hold.pv l1))] [] ⟨.pv (.int .i64 r), [], []⟩ := by
  refine contract_fin hm Try.func36 phold_Check_ag (by kernel_rfl) ?_
  unfold hold_Check at h
  refine W.seqOps (RunR.all (by kernel_rfl)) ?_
  refine W.seqOps (RunR.all (by kernel_rfl)) ?_
  refine W.assoc ?_
  replace h := bindS h
  obtain ⟨x2, hx2, h⟩ := h
  refine W.seqOps (RunR.stat 2 (by kernel_rfl) (RunR.cons (tab_cons (on := true) (fun _ => slices_ContainsFunc_Hold_Hold_ok hx2) tab_nil) (Step.call0 (g := 75) (caps := []) (v := .pv (.bool x2)) (by kernel_rfl) (by kernel_rfl) (by kernel_rfl) (tab_hit (by kernel_rfl)) (by kernel_rfl)) ((.nil _)))) ?_
  refine W.seqCond (t := x2) (by kernel_rfl) h (fun hc h' => ?_) (fun hc h' => ?_)
  · replace h := h'
    refine W.assoc ?_
    refine W.seqOps (RunR.all (by kernel_rfl)) ?_
    refine W.seqKeep rfl ?_
    cases h
    exact W.seqRet ((fin_ret (by kernel_rfl)))
  · replace h := h'
    refine W.seqSkip ?_
    refine W.assoc ?_
    refine W.seqOps (RunR.all (by kernel_rfl)) ?_
    replace h := bindS h
    obtain ⟨j3, hj3, h⟩ := h
    refine W.joinOut (j := j3) (o := r) (fun p σ => σ.tidy [] [(0, false)] [] [] [] = ⟨[(0, .pv (.slice (List.map T_api_Hold.pv l1)))], []⟩) ?_ (fun p σj3 hp hsj3 => ?_) (fun p hp => ?_)
    · refine W.blockLoopO (fun q σ => ((σ.forget [0, 4]).killAll []).tidy [] [(0, false), (4, false)] [] [] [] = ⟨[(0, .pv (.slice (List.map T_api_Hold.pv l1))), (4, .pv (.int .i64 q))], []⟩) hj3 ?_ ?_
      · show _ = _
        kernel_rfl
      · intro i4 σj3 oj3 hJj3 h
        refine W.keep hJj3 ?_
        refine W.assoc ?_
        refine W.seqOps (RunR.stat 2 (by kernel_rfl) (RunR.dyn (Step.lenT (f := T_api_Hold.pv) (l := l1) (by kernel_rfl)) (RunR.all (by kernel_rfl)))) ?_
        refine W.seqCond (t := decide (i4 < (l1.length : Int))) (by kernel_rfl) h (fun hc h' => ?_) (fun hc h' => ?_)
        · replace h := h'
          refine W.seqSkip ?_
          refine W.seqPass ?_
          refine W.assoc ?_
          replace h := bindS h
          obtain ⟨x5, hx5, h⟩ := h
          replace h := bindS h
          obtain ⟨x6, hx6, h⟩ := h
          refine W.seqDraw tab_nil (Run.stat 3 (by kernel_rfl) (Run.dyn (Step.idxT (f := T_api_Hold.pv) (l := l1) (n := IntKind.wrap .i64 (i4 - 1)) (e := x5) (k := .i64) (by kernel_rfl) (by kernel_rfl) hx5 (by kernel_rfl)) (Run.stat 4 (by kernel_rfl) (Run.dyn (Step.idxT (f := T_api_Hold.pv) (l := l1) (n := i4) (e := x6) (k := .i64) (by kernel_rfl) (by kernel_rfl) hx6 (by kernel_rfl)) (Run.all (by kernel_rfl)))))) ?_
          refine W.seqCond (t := decide (x5.f_ID ≥ x6.f_ID)) (by kernel_rfl) h (fun hc h' => ?_) (fun hc h' => ?_)
          · replace h := h'
            refine W.assoc ?_
            refine W.seqOps (RunR.all (by kernel_rfl)) ?_
            refine W.seqKeep rfl ?_
            cases h
            exact W.seqRet ((outw_out ret_ne (bout_o ret_ne ret_ne' (fun e => by subst e; exact (fin_ret (by kernel_rfl))))))
          · replace h := h'
            refine W.seqSkip ?_
            refine W.ops (RunR.all (by kernel_rfl)) ?_
            cases h
            exact (outw_in (by (show _ = _); kernel_rfl))
        · replace h := h'
          cases h
          exact W.seqExit ((outw_out exit_ne (bout_x (by (show _ = _); kernel_rfl))))
    · subst hp
      obtain ⟨⟩ := p
      refine W.assoc ?_
      refine W.seqKeep hsj3 ?_
      refine W.seqOps (RunR.stat 1 (by kernel_rfl) (RunR.dyn (Step.lenT (f := T_api_Hold.pv) (l := l1) (by kernel_rfl)) (RunR.all (by kernel_rfl)))) ?_
      refine W.seqCond (t := decide ((l1.length : Int) > 200)) (by kernel_rfl) h (fun hc h' => ?_) (fun hc h' => ?_)
      · replace h := h'
        refine W.assoc ?_
        refine W.seqOps (RunR.all (by kernel_rfl)) ?_
        refine W.seqKeep rfl ?_
        cases h
        exact W.seqRet ((fin_ret (by kernel_rfl)))
      · replace h := h'
        refine W.seqSkip ?_
        refine W.seqOps (RunR.all (by kernel_rfl)) ?_
        refine W.keep rfl ?_
        cases h
        exact W.ret ((fin_ret (by kernel_rfl)))
    · subst hp
      exact Option.some.inj h
def pcashbooklaw25_oner0 : List GOp := [⟨(some 4), none, .alloc [.pv (.int .i64 0), .pv (.int .i64 0), .pv (.int .i64 0), .pv (.int .i64 0), .pv (.int .i64 0), .pv (.int .i32 0), .pv (.int .i32 0), .pv (.int .i64 0), .pv (.bool false)]⟩]
def pcashbooklaw25_oner1 : List GOp := [⟨(some 5), none, .mov (.tmp 0)⟩, ⟨(some 6), none, .build [.pv (.int .i64 0), .pv (.int .i64 0)] [(1, 1, (.cst (.int .i64 100)))]⟩, ⟨(some 7), none, .mov (.tmp 1)⟩, ⟨(some 8), none, .build [.pv (.int .i64 0), .pv (.int .i64 0), .pv (.int .i64 0), .pv (.int .i64 0), .pv (.int .i64 0), .pv (.int .i32 0), .pv (.int .i32 0), .pv (.int .i64 0), .pv (.bool false)] [(0, 1, (.tmp 5)), (1, 1, (.cst (.int .i64 1))), (2, 2, (.tmp 6)), (4, 1, (.tmp 7)), (6, 1, (.cst (.int .i32 9)))]⟩, ⟨none, none, .store 9 (.tmp 4) (.tmp 8)⟩]
def pcashbooklaw25_oneb : AC := (.seq (.ops pcashbooklaw25_oner0) (.seq (.ops pcashbooklaw25_oner1) (.keep [] [(4, false)] [(.loc 4 0, false)] [] [] .ret)))
def pcashbooklaw25_one : Fd := ⟨2, [.cell 4 true 9], [], pcashbooklaw25_oneb⟩
theorem pcashbooklaw25_one_ag : agreeF Try.prog Try.f72 pcashbooklaw25_one = true := by kernel_rfl
theorem cashbooklaw25_one_ok {id1 : Int} {rank2 : Int} {r : T_api_Hold} (h : cashbooklaw25_one id1 rank2 = some r) : Contract Try.prog 72 [.pv (.int .i64 id1), .pv (.int .i64 rank2)] [] ⟨.pv (T_api_Hold.pv r), [], []⟩ := by
  refine contract_fin hm Try.func72 pcashbooklaw25_one_ag (by kernel_rfl) ?_
  unfold cashbooklaw25_one at h
  refine W.seqOps (RunR.all (by kernel_rfl)) ?_
  refine W.seqOps (RunR.all (by kernel_rfl)) ?_
  refine W.keep rfl ?_
  cases h
  exact W.ret ((fin_ret (by kernel_rfl)))
def pcmp_isNaN_intr0 : List GOp := [⟨(some 2), none, .mov (.cst (.bool false))⟩]
def pcmp_isNaN_intr1 : List GOp := [⟨(some 3), none, .mov (.tmp 0)⟩, ⟨(some 4), none, .mov (.tmp 0)⟩, ⟨(some 5), none, .bin false .neq (.tmp 3) (.tmp 4)⟩, ⟨(some 2), none, .mov (.tmp 5)⟩]
def pcmp_isNaN_intb : AC := (.seq (.ops pcmp_isNaN_intr0) (.seq (.ops pcmp_isNaN_intr1) (.keep [] [(2, false)] [] [] [] .ret)))
def pcmp_isNaN_int : Fd := ⟨1, [.tmp 2], [], pcmp_isNaN_intb⟩
theorem pcmp_isNaN_int_ag : agreeF Try.prog Try.f109 pcmp_isNaN_int = true := by kernel_rfl
theorem cmp_isNaN_int_ok {x1 : Int} {r : Bool} (h : cmp_isNaN_int x1 = some r) : Contract Try.prog 109 [.pv (.int .i64 x1)] [] ⟨.pv (.bool r), [], []⟩ := by
  refine contract_fin hm Try.func109 pcmp_isNaN_int_ag (by kernel_rfl) ?_
  unfold cmp_isNaN_int at h
  refine W.seqOps (RunR.all (by kernel_rfl)) ?_
  refine W.seqOps (RunR.all (by kernel_rfl)) ?_
  refine W.keep rfl ?_
  cases h
  exact W.ret ((fin_ret (by kernel_rfl)))
def pcmp_Compare_intr0 : List GOp := [⟨(some 4), none, .mov (.cst (.int .i64 0))⟩]
def pcmp_Compare_intr1 : List GOp := [⟨(some 7), none, .mov (.tmp 0)⟩, ⟨(some 8), none, .call 0 0 (.cst (.fn 109)) [(.tmp 7)] [] []⟩, ⟨(some 5), none, .mov (.tmp 8)⟩]
def pcmp_Compare_intr2 : List GOp := [⟨(some 9), none, .mov (.tmp 1)⟩, ⟨(some 10), none, .call 0 0 (.cst (.fn 109)) [(.tmp 9)] [] []⟩, ⟨(some 6), none, .mov (.tmp 10)⟩]
def pcmp_Compare_intr3 : List GOp := [⟨(some 11), none, .mov (.tmp 5)⟩]
def pcmp_Compare_intr4 : List GOp := [⟨(some 12), none, .mov (.tmp 6)⟩]
def pcmp_Compare_intr5 : List GOp := [⟨(some 4), none, .mov (.cst (.int .i64 0))⟩]
def pcmp_Compare_intr6 : List GOp := [⟨(some 4), none, .mov (.cst (.int .i64 (-1)))⟩]
def pcmp_Compare_intr7 : List GOp := [⟨(some 13), none, .mov (.tmp 6)⟩]
def pcmp_Compare_intr8 : List GOp := [⟨(some 4), none, .mov (.cst (.int .i64 1))⟩]
def pcmp_Compare_intr9 : List GOp := [⟨(some 14), none, .mov (.tmp 0)⟩, ⟨(some 15), none, .mov (.tmp 1)⟩, ⟨(some 16), none, .bin false .lss (.tmp 14) (.tmp 15)⟩]
def pcmp_Compare_intr10 : List GOp := [⟨(some 4), none, .mov (.cst (.int .i64 (-1)))⟩]
def pcmp_Compare_intr11 : List GOp := [⟨(some 17), none, .mov (.tmp 0)⟩, ⟨(some 18), none, .mov (.tmp 1)⟩, ⟨(some 19), none, .bin false .gtr (.tmp 17) (.tmp 18)⟩]
def pcmp_Compare_intr12 : List GOp := [⟨(some 4), none, .mov (.cst (.int .i64 1))⟩]
def pcmp_Compare_intr13 : List GOp := [⟨(some 4), none, .mov (.cst (.int .i64 0))⟩]
def pcmp_Compare_intb : AC := (.seq (.ops pcmp_Compare_intr0) (.seq (.ops pcmp_Compare_intr1) (.seq (.ops pcmp_Compare_intr2) (.seq (.seq (.ops pcmp_Compare_intr3) (.cond (.tmp 11) (.seq (.seq (.ops pcmp_Compare_intr4) (.cond (.tmp 12) (.seq (.ops pcmp_Compare_intr5) (.keep [] [(4, false)] [] [] [] .ret)) .skip)) (.seq (.ops pcmp_Compare_intr6) (.keep [] [(4, false)] [] [] [] .ret))) .skip)) (.seq (.seq (.ops pcmp_Compare_intr7) (.cond (.tmp 13) (.seq (.ops pcmp_Compare_intr8) (.keep [] [(4, false)] [] [] [] .ret)) .skip)) (.seq (.seq (.ops pcmp_Compare_intr9) (.cond (.tmp 16) (.seq (.ops pcmp_Compare_intr10) (.keep [] [(4, false)] [] [] [] .ret)) .skip)) (.seq (.seq (.ops pcmp_Compare_intr11) (.cond (.tmp 19) (.seq (.ops pcmp_Compare_intr12) (.keep [] [(4, false)] [] [] [] .ret)) .skip)) (.seq (.ops pcmp_Compare_intr13) (.keep [] [(4, false)] [] [] [] .ret)))))))))
def pcmp_Compare_int : Fd := ⟨2, [.tmp 4], [], pcmp_Compare_intb⟩
theorem pcmp_Compare_int_ag : agreeF Try.prog Try.f80 pcmp_Compare_int = true := by kernel_rfl
theorem cmp_Compare_int_ok {x1 : Int} {y2 : Int} {r : Int} (h : cmp_Compare_int x1 y2 = some r) : Contract Try.prog 80 [.pv (.int .i64 x1), .pv (.int .i64 y2)] [] ⟨.pv (.int .i64 r), [], []⟩ := by
  refine contract_fin hm Try.func80 pcmp_Compare_int_ag (by kernel_rfl) ?_
  unfold cmp_Compare_int at h
  refine W.seqOps (RunR.all (by kernel_rfl)) ?_
  replace h := bindS h
  obtain ⟨x3, hx3, h⟩ := h
  refine W.seqOps (RunR.stat 1 (by kernel_rfl) (RunR.cons (tab_cons (on := true) (fun _ => cmp_isNaN_int_ok hx3) tab_nil) (Step.call0 (g := 109) (caps := []) (v := .pv (.bool x3)) (by kernel_rfl) (by kernel_rfl) (by kernel_rfl) (tab_hit (by kernel_rfl)) (by kernel_rfl)) (RunR.all (by kernel_rfl)))) ?_
  replace h := bindS h
  obtain ⟨x4, hx4, h⟩ := h
  refine W.seqOps (RunR.stat 1 (by kernel_rfl) (RunR.cons (tab_cons (on := true) (fun _ => cmp_isNaN_int_ok hx4) tab_nil) (Step.call0 (g := 109) (caps := []) (v := .pv (.bool x4)) (by kernel_rfl) (by kernel_rfl) (by kernel_rfl) (tab_hit (by kernel_rfl)) (by kernel_rfl)) (RunR.all (by kernel_rfl)))) ?_
  refine W.assoc ?_
  refine W.seqOps (RunR.all (by kernel_rfl)) ?_
  refine W.seqCond (t := x3) (by kernel_rfl) h (fun hc h' => ?_) (fun hc h' => ?_)
  · replace h := h'
    refine W.assoc ?_
    refine W.assoc ?_
    refine W.seqOps (RunR.all (by kernel_rfl)) ?_
    refine W.seqCond (t := x4) (by kernel_rfl) h (fun hc h' => ?_) (fun hc h' => ?_)
    · replace h := h'
      refine W.assoc ?_
      refine W.seqOps (RunR.all (by kernel_rfl)) ?_
      refine W.seqKeep rfl ?_
      cases h
      exact W.seqRet ((fin_ret (by kernel_rfl)))
    · replace h := h'
      refine W.seqSkip ?_
      refine W.assoc ?_
      refine W.seqOps (RunR.all (by kernel_rfl)) ?_
      refine W.seqKeep rfl ?_
      cases h
      exact W.seqRet ((fin_ret (by kernel_rfl)))
  · replace h := h'
    refine W.seqSkip ?_
    refine W.assoc ?_
    refine W.seqOps (RunR.all (by kernel_rfl)) ?_
    refine W.seqCond (t := x4) (by kernel_rfl) h (fun hc h' => ?_) (fun hc h' => ?_)
    · replace h := h'
      refine W.assoc ?_
      refine W.seqOps (RunR.all (by kernel_rfl)) ?_
      refine W.seqKeep rfl ?_
      cases h
      exact W.seqRet ((fin_ret (by kernel_rfl)))
    · replace h := h'
      refine W.seqSkip ?_
      refine W.assoc ?_
      refine W.seqOps (RunR.all (by kernel_rfl)) ?_
      refine W.seqCond (t := decide (x1 < y2)) (by kernel_rfl) h (fun hc h' => ?_) (fun hc h' => ?_)
      · replace h := h'
        refine W.assoc ?_
        refine W.seqOps (RunR.all (by kernel_rfl)) ?_
        refine W.seqKeep rfl ?_
        cases h
        exact W.seqRet ((fin_ret (by kernel_rfl)))
      · replace h := h'
        refine W.seqSkip ?_
        refine W.assoc ?_
        refine W.seqOps (RunR.all (by kernel_rfl)) ?_
        refine W.seqCond (t := decide (x1 > y2)) (by kernel_rfl) h (fun hc h' => ?_) (fun hc h' => ?_)
        · replace h := h'
          refine W.assoc ?_
          refine W.seqOps (RunR.all (by kernel_rfl)) ?_
          refine W.seqKeep rfl ?_
          cases h
          exact W.seqRet ((fin_ret (by kernel_rfl)))
        · replace h := h'
          refine W.seqSkip ?_
          refine W.seqOps (RunR.all (by kernel_rfl)) ?_
          refine W.keep rfl ?_
          cases h
          exact W.ret ((fin_ret (by kernel_rfl)))
def phold_place_1r0 : List GOp := [⟨(some 2), none, .box (.tmp 0)⟩, ⟨(some 4), none, .mov (.cst (.int .i64 0))⟩]
def phold_place_1r1 : List GOp := [⟨(some 5), none, .fld 0 (.tmp 2)⟩, ⟨(some 6), none, .load false 1 (.tmp 5)⟩, ⟨(some 7), none, .mov (.tmp 1)⟩, ⟨(some 8), none, .call 0 0 (.cst (.fn 80)) [(.tmp 6), (.tmp 7)] [] []⟩, ⟨(some 4), none, .mov (.tmp 8)⟩]
def phold_place_1b : AC := (.seq (.ops phold_place_1r0) (.seq (.ops phold_place_1r1) (.keep [] [(4, false)] [] [.loc 2 0] [] .ret)))
def phold_place_1 : Fd := ⟨2, [.tmp 4], [], phold_place_1b⟩
theorem phold_place_1_ag : agreeF Try.prog Try.f111 phold_place_1 = true := by kernel_rfl
theorem hold_place_1_ok {h1 : T_api_Hold} {id2 : Int} {r : Int} (h : hold_place_1 h1 id2 = some r) : Contract Try.prog 111 [.pv (T_api_Hold.pv h1), .pv (.int .i64 id2)] [] ⟨.pv (.int .i64 r), [], []⟩ := by
  refine contract_fin hm Try.func111 phold_place_1_ag (by kernel_rfl) ?_
  unfold hold_place_1 at h
  refine W.seqOps (RunR.all (by kernel_rfl)) ?_
  replace h := bindS h
  obtain ⟨x3, hx3, h⟩ := h
  refine W.seqOps (RunR.stat 3 (by kernel_rfl) (RunR.cons (tab_cons (on := true) (fun _ => cmp_Compare_int_ok hx3) tab_nil) (Step.call0 (g := 80) (caps := []) (v := .pv (.int .i64 x3)) (by kernel_rfl) (by kernel_rfl) (by kernel_rfl) (tab_hit (by kernel_rfl)) (by kernel_rfl)) (RunR.all (by kernel_rfl)))) ?_
  refine W.keep rfl ?_
  cases h
  exact W.ret ((fin_ret (by kernel_rfl)))
def pslices_BinarySearchFunc_Hold_Hold_intr0 : List GOp := [⟨(some 6), none, .mov (.cst (.int .i64 0))⟩, ⟨(some 7), none, .mov (.cst (.bool false))⟩]
def pslices_BinarySearchFunc_Hold_Hold_intr1 : List GOp := [⟨(some 12), none, .mov (.tmp 0)⟩, ⟨(some 13), none, .len false (.tmp 12)⟩, ⟨(some 8), none, .mov (.tmp 13)⟩]
def pslices_BinarySearchFunc_Hold_Hold_intr2 : List GOp := [⟨(some 14), none, .mov (.tmp 8)⟩, ⟨(some 9), none, .mov (.cst (.int .i64 0))⟩, ⟨(some 10), none, .mov (.tmp 14)⟩]
def pslices_BinarySearchFunc_Hold_Hold_intr3 : List GOp := [⟨(some 15), none, .mov (.tmp 9)⟩, ⟨(some 16), none, .mov (.tmp 10)⟩, ⟨(some 17), none, .bin false .lss (.tmp 15) (.tmp 16)⟩]
def pslices_BinarySearchFunc_Hold_Hold_intr4 : List GOp := [⟨(some 18), none, .mov (.tmp 9)⟩, ⟨(some 19), none, .mov (.tmp 10)⟩, ⟨(some 20), none, .bin false .add (.tmp 18) (.tmp 19)⟩, ⟨(some 21), none, .conv .u64 (.tmp 20)⟩, ⟨(some 22), none, .bin false .shr (.tmp 21) (.cst (.int .u64 1))⟩, ⟨(some 23), none, .conv .i64 (.tmp 22)⟩, ⟨(some 11), none, .mov (.tmp 23)⟩]
def pslices_BinarySearchFunc_Hold_Hold_intr5 : List GOp := [⟨(some 24), none, .mov (.tmp 2)⟩, ⟨(some 25), none, .mov (.tmp 0)⟩, ⟨(some 26), none, .mov (.tmp 11)⟩, ⟨(some 27), none, .idx 9 (.tmp 25) (.tmp 26)⟩, ⟨(some 28), none, .load true 9 (.tmp 27)⟩, ⟨(some 29), none, .mov (.tmp 1)⟩, ⟨(some 30), none, .call 0 0 (.tmp 24) [(.tmp 28), (.tmp 29)] [] []⟩, ⟨(some 31), none, .bin false .lss (.tmp 30) (.cst (.int .i64 0))⟩]
def pslices_BinarySearchFunc_Hold_Hold_intr6 : List GOp := [⟨(some 32), none, .mov (.tmp 11)⟩, ⟨(some 33), none, .bin false .add (.tmp 32) (.cst (.int .i64 1))⟩, ⟨(some 9), none, .mov (.tmp 33)⟩]
def pslices_BinarySearchFunc_Hold_Hold_intr7 : List GOp := [⟨(some 34), none, .mov (.tmp 11)⟩, ⟨(some 10), none, .mov (.tmp 34)⟩]
def pslices_BinarySearchFunc_Hold_Hold_intl8 : AC := (.keep [] [(0, false), (1, false), (2, false), (8, false), (9, false), (10, false)] [] [] [] (.seq (.seq (.ops pslices_BinarySearchFunc_Hold_Hold_intr3) (.cond (.tmp 17) .skip (.exit 0))) (.pass 1 (.seq (.ops pslices_BinarySearchFunc_Hold_Hold_intr4) (.seq (.ops pslices_BinarySearchFunc_Hold_Hold_intr5) (.cond (.tmp 31) (.ops pslices_BinarySearchFunc_Hold_Hold_intr6) (.ops pslices_BinarySearchFunc_Hold_Hold_intr7)))))))
def pslices_BinarySearchFunc_Hold_Hold_intr9 : List GOp := [⟨(some 35), none, .mov (.tmp 9)⟩, ⟨(some 36), none, .mov (.tmp 9)⟩, ⟨(some 37), none, .mov (.tmp 8)⟩, ⟨(some 38), none, .bin false .lss (.tmp 36) (.tmp 37)⟩, ⟨(some 39), none, .mov (.tmp 38)⟩, ⟨(some 40), (some (39, true)), .mov (.tmp 2)⟩, ⟨(some 41), (some (39, true)), .mov (.tmp 0)⟩, ⟨(some 42), (some (39, true)), .mov (.tmp 9)⟩, ⟨(some 43), (some (39, true)), .idx 9 (.tmp 41) (.tmp 42)⟩, ⟨(some 44), (some (39, true)), .load true 9 (.tmp 43)⟩, ⟨(some 45), (some (39, true)), .mov (.tmp 1)⟩, ⟨(some 46), (some (39, true)), .call 0 0 (.tmp 40) [(.tmp 44), (.tmp 45)] [] []⟩, ⟨(some 47), (some (39, true)), .bin false .eql (.tmp 46) (.cst (.int .i64 0))⟩, ⟨(some 48), none, .pick (.tmp 39) (.tmp 47) (.cst (.bool false))⟩, ⟨(some 6), none, .mov (.tmp 35)⟩, ⟨(some 7), none, .mov (.tmp 48)⟩]
def pslices_BinarySearchFunc_Hold_Hold_intb : AC := (.seq (.ops pslices_BinarySearchFunc_Hold_Hold_intr0) (.seq (.ops pslices_BinarySearchFunc_Hold_Hold_intr1) (.seq (.ops pslices_BinarySearchFunc_Hold_Hold_intr2) (.seq (.block 0 (.loop [0, 1, 2, 8, 9, 10] [] pslices_BinarySearchFunc_Hold_Hold_intl8)) (.seq (.keep [] [(0, false), (1, false), (2, false), (8, false), (9, false)] [] [] [] (.ops pslices_BinarySearchFunc_Hold_Hold_intr9)) (.keep [] [(6, false), (7, false)] [] [] [] .ret))))))
def pslices_BinarySearchFunc_Hold_Hold_int : Fd := ⟨3, [.tmp 6, .tmp 7], [], pslices_BinarySearchFunc_Hold_Hold_intb⟩
theorem pslices_BinarySearchFunc_Hold_Hold_int_ag : agreeF Try.prog Try.f110 pslices_BinarySearchFunc_Hold_Hold_int = true := by kernel_rfl
theorem slices_BinarySearchFunc_Hold_Hold_int_ok {x1 : List T_api_Hold} {target2 : Int} {r : Int × Bool} (h : slices_BinarySearchFunc_Hold_Hold_int x1 target2 = some r) : Contract Try.prog 110 [.pv (.slice (List.map T_api_Hold.pv x1)), .pv (.int .i64 target2), .pv (.fn 111)] [] ⟨.tup [.pv (.int .i64 r.1), .pv (.bool r.2)], [], []⟩ := by
  refine contract_fin hm Try.func110 pslices_BinarySearchFunc_Hold_Hold_int_ag (by kernel_rfl) ?_
  unfold slices_BinarySearchFunc_Hold_Hold_int at h
  refine W.seqOps (RunR.all (by kernel_rfl)) ?_
  refine W.seqOps (RunR.stat 1 (by kernel_rfl) (RunR.dyn (Step.lenT (f := T_api_Hold.pv) (l := x1) (by kernel_rfl)) (RunR.all (by kernel_rfl)))) ?_
  refine W.seqOps (RunR.all (by kernel_rfl)) ?_
  replace h := bindS h
  obtain ⟨j3, hj3, h⟩ := h
  refine W.join (j := j3) (fun p σ => σ.tidy [] [(0, false), (1, false), (2, false), (8, false), (9, false)] [] [] [] = ⟨[(0, .pv (.slice (List.map T_api_Hold.pv x1))), (1, .pv (.int .i64 target2)), (2, .pv (.fn 111)), (8, .pv (.int .i64 (x1.length : Int))), (9, .pv (.int .i64 p))], []⟩) ?_ (fun σj3 hsj3 => ?_)
  · refine W.blockLoop (fun q σ => ((σ.forget [0, 1, 2, 8, 9, 10]).killAll []).tidy [] [(0, false), (1, false), (2, false), (8, false), (9, false), (10, false)] [] [] [] = ⟨[(0, .pv (.slice (List.map T_api_Hold.pv x1))), (1, .pv (.int .i64 target2)), (2, .pv (.fn 111)), (8, .pv (.int .i64 (x1.length : Int))), (9, .pv (.int .i64 q.1)), (10, .pv (.int .i64 q.2))], []⟩) hj3 ?_ ?_
    · show _ = _
      kernel_rfl
    · intro q σj3 oj3 hJj3 h
      obtain ⟨i4, j5⟩ := q
      refine W.keep hJj3 ?_
      refine W.assoc ?_
      refine W.seqOps (RunR.all (by kernel_rfl)) ?_
      refine W.seqCond (t := decide (i4 < j5)) (by kernel_rfl) h (fun hc h' => ?_) (fun hc h' => ?_)
      · replace h := h'
        refine W.seqSkip ?_
        refine W.pass ?_
        refine W.seqOps (RunR.all (by kernel_rfl)) ?_
        replace h := bindS h
        obtain ⟨x6, hx6, h⟩ := h
        replace h := bindS h
        obtain ⟨x7, hx7, h⟩ := h
        refine W.seqOps (RunR.stat 3 (by kernel_rfl) (RunR.dyn (Step.idxT (f := T_api_Hold.pv) (l := x1) (n := IntKind.wrap .i64 (Int.fdiv (IntKind.wrap .u64 (IntKind.wrap .i64 (i4 + j5))) 2)) (e := x6) (k := .i64) (by kernel_rfl) (by kernel_rfl) hx6 (by kernel_rfl)) (RunR.stat 2 (by kernel_rfl) (RunR.cons (tab_cons (on := true) (fun _ => hold_place_1_ok hx7) tab_nil) (Step.call0 (g := 111) (caps := []) (v := .pv (.int .i64 x7)) (by kernel_rfl) (by kernel_rfl) (by kernel_rfl) (tab_hit (by kernel_rfl)) (by kernel_rfl)) (RunR.all (by kernel_rfl)))))) ?_
        refine W.condI (t := decide (x7 < 0)) (by kernel_rfl) h (fun hc h' => ?_) (fun hc h' => ?_)
        · replace h := h'
          refine W.ops (RunR.all (by kernel_rfl)) ?_
          cases h
          exact (outw_in (by (show _ = _); kernel_rfl))
        · replace h := h'
          refine W.ops (RunR.all (by kernel_rfl)) ?_
          cases h
          exact (outw_in (by (show _ = _); kernel_rfl))
      · replace h := h'
        cases h
        exact W.seqExit ((outw_out exit_ne (bnorm_x (by (show _ = _); kernel_rfl))))
  · refine W.seqKeep hsj3 ?_
    replace h := bindS h
    obtain ⟨c9, hc9, h⟩ := h
    replace h := bindS h
    obtain ⟨x10, hx10, h⟩ := h
    replace h := bindS h
    obtain ⟨x11, hx11, h⟩ := h
    refine W.seqOps (RunR.stat 4 (by kernel_rfl) (RunR.dyn (Step.name (f := eBool) (e := decide (j3 < (x1.length : Int))) (c := c9) (by kernel_rfl) hc9) (RunR.puts 3 [(42, (bif c9 then (.pv (.int .i64 j3)) else (.tup []))), (41, (bif c9 then (.pv (.slice (List.map T_api_Hold.pv x1))) else (.tup []))), (40, (bif c9 then (.pv (.fn 111)) else (.tup [])))] (by cases c9 <;> kernel_rfl) (RunR.dyn (Step.gdG c9 (by kernel_rfl) (by
          cases c9
          · exact .inl ⟨by kernel_rfl, by kernel_rfl⟩
          · exact .inr ⟨by kernel_rfl, by kernel_rfl, Step.idxT (f := T_api_Hold.pv) (l := x1) (n := j3) (e := x10) (k := .i64) (by kernel_rfl) (by kernel_rfl) hx10 (by kernel_rfl)⟩)) (RunR.puts 2 [(45, (bif c9 then (.pv (.int .i64 target2)) else (.tup []))), (44, (bif c9 then (.pv (T_api_Hold.pv x10)) else (.tup [])))] (by cases c9 <;> kernel_rfl) (RunR.cons (tab_cons (on := c9) (fun hg => hold_place_1_ok (gdO_at hg hx11)) tab_nil) (Step.gdG c9 (by kernel_rfl) (by
          cases c9
          · exact .inl ⟨by kernel_rfl, by kernel_rfl⟩
          · exact .inr ⟨by kernel_rfl, by kernel_rfl, Step.call0 (g := 111) (caps := []) (v := .pv (.int .i64 x11)) (by kernel_rfl) (by kernel_rfl) (by kernel_rfl) (tab_hit (by kernel_rfl)) (by kernel_rfl)⟩)) (RunR.puts 2 [(48, .pv (.bool (c9 && (x11 == 0)))), (47, (bif c9 then (.pv (.bool (x11 == 0))) else (.tup [])))] (by cases c9 <;> kernel_rfl) (RunR.all (by kernel_rfl))))))))) ?_
    refine W.keep rfl ?_
    cases h
    exact W.ret ((fin_ret (by kernel_rfl)))
def phold_placer0 : List GOp := [⟨(some 4), none, .mov (.cst (.int .i64 0))⟩, ⟨(some 5), none, .mov (.cst (.bool false))⟩]
def phold_placer1 : List GOp := [⟨(some 6), none, .mov (.tmp 0)⟩, ⟨(some 7), none, .mov (.tmp 1)⟩, ⟨(some 8), none, .call 0 0 (.cst (.fn 110)) [(.tmp 6), (.tmp 7), (.cst (.fn 111))] [] []⟩, ⟨(some 9), none, .ext 0 (.tmp 8)⟩, ⟨(some 10), none, .ext 1 (.tmp 8)⟩, ⟨(some 4), none, .mov (.tmp 9)⟩, ⟨(some 5), none, .mov (.tmp 10)⟩]
def phold_placeb : AC := (.seq (.ops phold_placer0) (.seq (.ops phold_placer1) (.keep [] [(4, false), (5, false)] [] [] [] .ret)))
def phold_place : Fd := ⟨2, [.tmp 4, .tmp 5], [], phold_placeb⟩
theorem phold_place_ag : agreeF Try.prog Try.f82 phold_place = true := by kernel_rfl
theorem hold_place_ok {l1 : List T_api_Hold} {id2 : Int} {r : Int × Bool} (h : hold_place l1 id2 = some r) : Contract Try.prog 82 [.pv (.slice (List.map T_api_Hold.pv l1)), .pv (.int .i64 id2)] [] ⟨.tup [.pv (.int .i64 r.1), .pv (.bool r.2)], [], []⟩ := by
  refine contract_fin hm Try.func82 phold_place_ag (by kernel_rfl) ?_
  unfold hold_place at h
  refine W.seqOps (RunR.all (by kernel_rfl)) ?_
  replace h := bindS h
  obtain ⟨x3, hx3, h⟩ := h
  refine W.seqOps (RunR.stat 2 (by kernel_rfl) (RunR.cons (tab_cons (on := true) (fun _ => slices_BinarySearchFunc_Hold_Hold_int_ok hx3) tab_nil) (Step.call0 (g := 110) (caps := []) (v := .tup [.pv (.int .i64 x3.1), .pv (.bool x3.2)]) (by kernel_rfl) (by kernel_rfl) (by kernel_rfl) (tab_hit (by kernel_rfl)) (by kernel_rfl)) (RunR.all (by kernel_rfl)))) ?_
  refine W.keep rfl ?_
  cases h
  exact W.ret ((fin_ret (by kernel_rfl)))
def phold_Addr0 : List GOp := [⟨(some 3), none, .box (.tmp 1)⟩, ⟨(some 4), none, .mov .nils⟩, ⟨(some 5), none, .mov (.cst (.int .i64 0))⟩]
def phold_Addr1 : List GOp := [⟨(some 9), none, .mov (.tmp 0)⟩, ⟨(some 10), none, .call 0 0 (.cst (.fn 36)) [(.tmp 9)] [] []⟩, ⟨(some 6), none, .mov (.tmp 10)⟩]
def phold_Addr2 : List GOp := [⟨(some 11), none, .mov (.tmp 6)⟩, ⟨(some 12), none, .bin false .neq (.tmp 11) (.cst (.int .i64 0))⟩]
def phold_Addr3 : List GOp := [⟨(some 13), none, .mov (.tmp 6)⟩, ⟨(some 4), none, .mov .nils⟩, ⟨(some 5), none, .mov (.tmp 13)⟩]
def phold_Addr4 : List GOp := [⟨(some 15), none, .mov (.tmp 0)⟩, ⟨(some 16), none, .fld 0 (.tmp 3)⟩, ⟨(some 17), none, .load false 1 (.tmp 16)⟩, ⟨(some 18), none, .call 0 0 (.cst (.fn 82)) [(.tmp 15), (.tmp 17)] [] []⟩, ⟨(some 14), none, .mov (.tmp 18)⟩, ⟨(some 19), none, .ext 0 (.tmp 14)⟩, ⟨(some 20), none, .ext 1 (.tmp 14)⟩, ⟨(some 7), none, .mov (.tmp 19)⟩, ⟨(some 8), none, .mov (.tmp 20)⟩]
def phold_Addr5 : List GOp := [⟨(some 22), none, .load true 9 (.tmp 3)⟩, ⟨(some 23), none, .call 0 0 (.cst (.fn 74)) [(.tmp 22)] [] []⟩, ⟨(some 24), none, .un .not (.tmp 23)⟩, ⟨(some 25), none, .mov (.tmp 24)⟩, ⟨(some 26), (some (25, false)), .fld 7 (.tmp 3)⟩, ⟨(some 27), (some (25, false)), .load false 1 (.tmp 26)⟩, ⟨(some 28), (some (25, false)), .bin false .gtr (.tmp 27) (.cst (.int .i64 0))⟩, ⟨(some 29), none, .pick (.tmp 25) (.cst (.bool true)) (.tmp 28)⟩, ⟨(some 30), none, .mov (.tmp 29)⟩, ⟨(some 31), (some (30, false)), .fld 8 (.tmp 3)⟩, ⟨(some 32), (some (30, false)), .load false 1 (.tmp 31)⟩, ⟨(some 33), none, .pick (.tmp 30) (.cst (.bool true)) (.tmp 32)⟩, ⟨(some 21), none, .mov (.tmp 33)⟩]
def phold_Addr6 : List GOp := [⟨(some 4), none, .mov .nils⟩, ⟨(some 5), none, .mov (.cst (.int .i64 1))⟩]
def phold_Addr7 : List GOp := [⟨(some 35), none, .mov (.tmp 8)⟩, ⟨(some 34), none, .mov (.tmp 35)⟩]
def phold_Addr8 : List GOp := [⟨(some 4), none, .mov .nils⟩, ⟨(some 5), none, .mov (.cst (.int .i64 26))⟩]
def phold_Addr9 : List GOp := [⟨(some 37), none, .mov (.tmp 0)⟩, ⟨(some 38), none, .len false (.tmp 37)⟩, ⟨(some 39), none, .bin false .geq (.tmp 38) (.cst (.int .i64 200))⟩, ⟨(some 36), none, .mov (.tmp 39)⟩]
def phold_Addr10 : List GOp := [⟨(some 4), none, .mov .nils⟩, ⟨(some 5), none, .mov (.cst (.int .i64 6))⟩]
def phold_Addr11 : List GOp := [⟨(some 40), none, .mov (.tmp 0)⟩, ⟨(some 41), none, .call 1 0 (.cst (.fn 84)) [(.tmp 40)] [] []⟩, ⟨(some 42), none, .mov (.tmp 7)⟩, ⟨(some 43), none, .load true 9 (.tmp 3)⟩, ⟨(some 44), none, .lit true 9 [(.tmp 43)]⟩, ⟨(some 45), none, .ins 83 9 64 41 (.tmp 42) (.tmp 44)⟩, ⟨(some 4), none, .mov (.tmp 45)⟩, ⟨(some 5), none, .mov (.cst (.int .i64 0))⟩]
def phold_Addr11z : List GOp := []
def phold_Addb : AC := (.seq (.ops phold_Addr0) (.seq (.seq (.ops phold_Addr1) (.seq (.ops phold_Addr2) (.cond (.tmp 12) (.seq (.ops phold_Addr3) (.keep [.loc 45 0] [(4, true), (5, false)] [] [.loc 3 0, .loc 44 0] [] .ret)) .skip))) (.seq (.ops phold_Addr4) (.seq (.pass 0 (.seq (.ops phold_Addr5) (.cond (.tmp 21) (.seq (.ops phold_Addr6) (.keep [.loc 45 0] [(4, true), (5, false)] [] [.loc 3 0, .loc 44 0] [] .ret)) (.seq (.ops phold_Addr7) (.cond (.tmp 34) (.seq (.ops phold_Addr8) (.keep [.loc 45 0] [(4, true), (5, false)] [] [.loc 3 0, .loc 44 0] [] .ret)) (.seq (.ops phold_Addr9) (.cond (.tmp 36) (.seq (.ops phold_Addr10) (.keep [.loc 45 0] [(4, true), (5, false)] [] [.loc 3 0, .loc 44 0] [] .ret)) .skip))))))) (.seq (.keep [] [(0, false), (3, false), (7, false)] [(.loc 3 0, false)] [] [] (.drawZ [.loc 41 0, .loc 44 0, .loc 45 0] phold_Addr11 phold_Addr11z)) (.keep [.loc 45 0] [(4, true), (5, false)] [] [.loc 3 0, .loc 44 0] [] .ret))))))
def phold_Add : Fd := ⟨2, [.tmp 4, .tmp 5], [], phold_Addb⟩
theorem phold_Add_ag : agreeF Try.prog Try.f47 phold_Add = true := by kernel_rfl
theorem hold_Add_ok {l1 : List T_api_Hold} {h2 : T_api_Hold} {r : (List T_api_Hold) × Int} (h : hold_Add l1 h2 = some r) : Contract Try.prog 47 [.pv (.slice (List.map T_api_Hold.pv l1)), .pv (T_api_Hold.pv h2)] [] ⟨.tup [.pv (.slice (List.map T_api_Hold.pv r.1)), .pv (.int .i64 r.2)], [], []⟩ := by
  refine contract_fin hm Try.func47 phold_Add_ag (by kernel_rfl) ?_
  unfold hold_Add at h
  refine W.seqOps (RunR.all (by kernel_rfl)) ?_
  refine W.assoc ?_
  replace h := bindS h
  obtain ⟨x3, hx3, h⟩ := h
  refine W.seqOps (RunR.stat 1 (by kernel_rfl) (RunR.cons (tab_cons (on := true) (fun _ => hold_Check_ok hx3) tab_nil) (Step.call0 (g := 36) (caps := []) (v := .pv (.int .i64 x3)) (by kernel_rfl) (by kernel_rfl) (by kernel_rfl) (tab_hit (by kernel_rfl)) (by kernel_rfl)) (RunR.all (by kernel_rfl)))) ?_
  refine W.assoc ?_
  refine W.seqOps (RunR.all (by kernel_rfl)) ?_
  refine W.seqCond (t := (x3 != 0)) (by kernel_rfl) h (fun hc h' => ?_) (fun hc h' => ?_)
  · replace h := h'
    refine W.assoc ?_
    refine W.seqOps (RunR.all (by kernel_rfl)) ?_
    refine W.seqKeep rfl ?_
    cases h
    exact W.seqRet ((fin_ret (by kernel_rfl)))
  · replace h := h'
    refine W.seqSkip ?_
    replace h := bindS h
    obtain ⟨x4, hx4, h⟩ := h
    refine W.seqOps (RunR.stat 3 (by kernel_rfl) (RunR.cons (tab_cons (on := true) (fun _ => hold_place_ok hx4) tab_nil) (Step.call0 (g := 82) (caps := []) (v := .tup [.pv (.int .i64 x4.1), .pv (.bool x4.2)]) (by kernel_rfl) (by kernel_rfl) (by kernel_rfl) (tab_hit (by kernel_rfl)) (by kernel_rfl)) (RunR.all (by kernel_rfl)))) ?_
    refine W.seqPass ?_
    refine W.assoc ?_
    replace h := bindS h
    obtain ⟨x5, hx5, h⟩ := h
    replace h := bindS h
    obtain ⟨c6, hc6, h⟩ := h
    replace h := bindS h
    obtain ⟨c7, hc7, h⟩ := h
    refine W.seqOps (RunR.stat 1 (by kernel_rfl) (RunR.cons (tab_cons (on := true) (fun _ => hold_right_ok hx5) tab_nil) (Step.call0 (g := 74) (caps := []) (v := .pv (.bool x5)) (by kernel_rfl) (by kernel_rfl) (by kernel_rfl) (tab_hit (by kernel_rfl)) (by kernel_rfl)) (RunR.stat 1 (by kernel_rfl) (RunR.dyn (Step.name (f := eBool) (e := !x5) (c := c6) (by kernel_rfl) hc6) (RunR.puts 4 [(29, .pv (.bool (c6 || (decide (h2.f_Taken > 0))))), (28, (bif !c6 then (.pv (.bool (decide (h2.f_Taken > 0)))) else (.tup []))), (27, (bif !c6 then (.pv (.int .i64 h2.f_Taken)) else (.tup []))), (26, (bif !c6 then (.ptr (.loc 3 0) 7) else (.tup [])))] (by cases c6 <;> kernel_rfl) (RunR.dyn (Step.name (f := eBool) (e := (c6 || (decide (h2.f_Taken > 0)))) (c := c7) (by kernel_rfl) hc7) (RunR.puts 3 [(33, .pv (.bool (c7 || h2.f_Done))), (32, (bif !c7 then (.pv (.bool h2.f_Done)) else (.tup []))), (31, (bif !c7 then (.ptr (.loc 3 0) 8) else (.tup [])))] (by cases c7 <;> kernel_rfl) (RunR.all (by kernel_rfl))))))))) ?_
    refine W.seqCond (t := (c7 || h2.f_Done)) (by kernel_rfl) h (fun hc h' => ?_) (fun hc h' => ?_)
    · replace h := h'
      refine W.assoc ?_
      refine W.seqOps (RunR.all (by kernel_rfl)) ?_
      refine W.seqKeep rfl ?_
      cases h
      exact W.seqRet ((fin_ret (by kernel_rfl)))
    · replace h := h'
      refine W.assoc ?_
      refine W.seqOps (RunR.all (by kernel_rfl)) ?_
      refine W.seqCond (t := x4.2) (by kernel_rfl) h (fun hc h' => ?_) (fun hc h' => ?_)
      · replace h := h'
        refine W.assoc ?_
        refine W.seqOps (RunR.all (by kernel_rfl)) ?_
        refine W.seqKeep rfl ?_
        cases h
        exact W.seqRet ((fin_ret (by kernel_rfl)))
      · replace h := h'
        refine W.assoc ?_
        refine W.seqOps (RunR.stat 1 (by kernel_rfl) (RunR.dyn (Step.lenT (f := T_api_Hold.pv) (l := l1) (by kernel_rfl)) (RunR.all (by kernel_rfl)))) ?_
        refine W.seqCond (t := decide ((l1.length : Int) ≥ 200)) (by kernel_rfl) h (fun hc h' => ?_) (fun hc h' => ?_)
        · replace h := h'
          refine W.assoc ?_
          refine W.seqOps (RunR.all (by kernel_rfl)) ?_
          refine W.seqKeep rfl ?_
          cases h
          exact W.seqRet ((fin_ret (by kernel_rfl)))
        · replace h := h'
          refine W.seqSkip ?_
          replace h := bindS h
          obtain ⟨x8, hx8, h⟩ := h
          replace h := bindS h
          obtain ⟨x9, hx9, h⟩ := h
          refine W.seqKeep rfl ?_
          refine W.seqDrawZ (tab_cons (on := true) (fun _ => slices_Clone84_ok hx8) tab_nil) (hI_of (by kernel_rfl) (hI_cons insC83 hI_nil)) (Run.stat 1 (by kernel_rfl) (Run.dyn (Step.callD (g := 84) (caps := []) (v := .own (.loc 41 0)) (ins := [(.loc 41 0, .row 9 (List.map T_api_Hold.pv x8))]) (by kernel_rfl) (by kernel_rfl) (by kernel_rfl) (tab_hit (by kernel_rfl)) (by kernel_rfl)) (Run.stat 3 (by kernel_rfl) (Run.dyn (Step.insT (k := .loc 41 0) (k2 := .loc 44 0) (F := T_api_Hold.pv) (l := x8) (r := x9) (e := h2) (n := x4.1) (by kernel_rfl) (by kernel_rfl) (by kernel_rfl) (by kernel_rfl) (by kernel_rfl) (by kernel_rfl) hx9) (Run.all (by kernel_rfl)))))) (by kernel_rfl) ((.nil _)) ?_
          refine W.keep rfl ?_
          cases h
          exact W.ret ((fin_ret (by kernel_rfl)))
def phold_Liver0 : List GOp := [⟨(some 2), none, .box (.tmp 0)⟩, ⟨(some 4), none, .mov (.cst (.bool false))⟩]
def phold_Liver1 : List GOp := [⟨(some 5), none, .load true 9 (.tmp 2)⟩, ⟨(some 6), none, .call 0 0 (.cst (.fn 74)) [(.tmp 5)] [] []⟩, ⟨(some 7), none, .mov (.tmp 6)⟩, ⟨(some 8), (some (7, true)), .fld 8 (.tmp 2)⟩, ⟨(some 9), (some (7, true)), .load false 1 (.tmp 8)⟩, ⟨(some 10), (some (7, true)), .un .not (.tmp 9)⟩, ⟨(some 11), none, .pick (.tmp 7) (.tmp 10) (.cst (.bool false))⟩, ⟨(some 12), none, .mov (.tmp 11)⟩, ⟨(some 13), (some (12, true)), .mov (.tmp 1)⟩, ⟨(some 14), (some (12, true)), .fld 5 (.tmp 2)⟩, ⟨(some 15), (some (12, true)), .load false 1 (.tmp 14)⟩, ⟨(some 16), (some (12, true)), .bin false .geq (.tmp 13) (.tmp 15)⟩, ⟨(some 17), none, .pick (.tmp 12) (.tmp 16) (.cst (.bool false))⟩, ⟨(some 18), none, .mov (.tmp 17)⟩, ⟨(some 19), (some (18, true)), .mov (.tmp 1)⟩, ⟨(some 20), (some (18, true)), .fld 6 (.tmp 2)⟩, ⟨(some 21), (some (18, true)), .load false 1 (.tmp 20)⟩, ⟨(some 22), (some (18, true)), .bin false .leq (.tmp 19) (.tmp 21)⟩, ⟨(some 23), none, .pick (.tmp 18) (.tmp 22) (.cst (.bool false))⟩, ⟨(some 4), none, .mov (.tmp 23)⟩]
def phold_Liveb : AC := (.seq (.ops phold_Liver0) (.seq (.ops phold_Liver1) (.keep [] [(4, false)] [] [.loc 2 0] [] .ret)))
def phold_Live : Fd := ⟨2, [.tmp 4], [], phold_Liveb⟩
theorem phold_Live_ag : agreeF Try.prog Try.f40 phold_Live = true := by kernel_rfl
theorem hold_Live_ok {h1 : T_api_Hold} {now2 : Int} {r : Bool} (h : hold_Live h1 now2 = some r) : Contract Try.prog 40 [.pv (T_api_Hold.pv h1), .pv (.int .i32 now2)] [] ⟨.pv (.bool r), [], []⟩ := by
  refine contract_fin hm Try.func40 phold_Live_ag (by kernel_rfl) ?_
  unfold hold_Live at h
  refine W.seqOps (RunR.all (by kernel_rfl)) ?_
  replace h := bindS h
  obtain ⟨x3, hx3, h⟩ := h
  replace h := bindS h
  obtain ⟨c4, hc4, h⟩ := h
  replace h := bindS h
  obtain ⟨c5, hc5, h⟩ := h
  refine W.seqOps (RunR.stat 1 (by kernel_rfl) (RunR.cons (tab_cons (on := true) (fun _ => hold_right_ok hx3) tab_nil) (Step.call0 (g := 74) (caps := []) (v := .pv (.bool x3)) (by kernel_rfl) (by kernel_rfl) (by kernel_rfl) (tab_hit (by kernel_rfl)) (by kernel_rfl)) (RunR.stat 1 (by kernel_rfl) (RunR.puts 4 [(11, .pv (.bool (x3 && (!h1.f_Done)))), (10, (bif x3 then (.pv (.bool (!h1.f_Done))) else (.tup []))), (9, (bif x3 then (.pv (.bool h1.f_Done)) else (.tup []))), (8, (bif x3 then (.ptr (.loc 2 0) 8) else (.tup [])))] (by cases x3 <;> kernel_rfl) (RunR.dyn (Step.name (f := eBool) (e := (x3 && (!h1.f_Done))) (c := c4) (by kernel_rfl) hc4) (RunR.puts 5 [(17, .pv (.bool (c4 && (decide (now2 ≥ h1.f_Made))))), (16, (bif c4 then (.pv (.bool (decide (now2 ≥ h1.f_Made)))) else (.tup []))), (15, (bif c4 then (.pv (.int .i32 h1.f_Made)) else (.tup []))), (14, (bif c4 then (.ptr (.loc 2 0) 5) else (.tup []))), (13, (bif c4 then (.pv (.int .i32 now2)) else (.tup [])))] (by cases c4 <;> kernel_rfl) (RunR.dyn (Step.name (f := eBool) (e := (c4 && (decide (now2 ≥ h1.f_Made)))) (c := c5) (by kernel_rfl) hc5) (RunR.puts 5 [(23, .pv (.bool (c5 && (decide (now2 ≤ h1.f_Until))))), (22, (bif c5 then (.pv (.bool (decide (now2 ≤ h1.f_Until)))) else (.tup []))), (21, (bif c5 then (.pv (.int .i32 h1.f_Until)) else (.tup []))), (20, (bif c5 then (.ptr (.loc 2 0) 6) else (.tup []))), (19, (bif c5 then (.pv (.int .i32 now2)) else (.tup [])))] (by cases c5 <;> kernel_rfl) (RunR.all (by kernel_rfl)))))))))) ?_
  refine W.keep rfl ?_
  cases h
  exact W.ret ((fin_ret (by kernel_rfl)))
def phold_Restr0 : List GOp := [⟨(some 2), none, .box (.tmp 0)⟩, ⟨(some 4), none, .mov (.cst (.int .i64 0))⟩]
def phold_Restr1 : List GOp := [⟨(some 5), none, .load true 9 (.tmp 2)⟩, ⟨(some 6), none, .mov (.tmp 1)⟩, ⟨(some 7), none, .call 0 0 (.cst (.fn 40)) [(.tmp 5), (.tmp 6)] [] []⟩, ⟨(some 8), none, .un .not (.tmp 7)⟩]
def phold_Restr2 : List GOp := [⟨(some 4), none, .mov (.cst (.int .i64 0))⟩]
def phold_Restr3 : List GOp := [⟨(some 9), none, .fld 2 (.tmp 2)⟩, ⟨(some 10), none, .fld 1 (.tmp 9)⟩, ⟨(some 11), none, .load false 1 (.tmp 10)⟩, ⟨(some 12), none, .fld 7 (.tmp 2)⟩, ⟨(some 13), none, .load false 1 (.tmp 12)⟩, ⟨(some 14), none, .bin false .sub (.tmp 11) (.tmp 13)⟩, ⟨(some 4), none, .mov (.tmp 14)⟩]
def phold_Restb : AC := (.seq (.ops phold_Restr0) (.seq (.seq (.ops phold_Restr1) (.cond (.tmp 8) (.seq (.ops phold_Restr2) (.keep [] [(4, false)] [] [.loc 2 0] [] .ret)) .skip)) (.seq (.ops phold_Restr3) (.keep [] [(4, false)] [] [.loc 2 0] [] .ret))))
def phold_Rest : Fd := ⟨2, [.tmp 4], [], phold_Restb⟩
theorem phold_Rest_ag : agreeF Try.prog Try.f42 phold_Rest = true := by kernel_rfl
theorem hold_Rest_ok {h1 : T_api_Hold} {now2 : Int} {r : Int} (h : hold_Rest h1 now2 = some r) : Contract Try.prog 42 [.pv (T_api_Hold.pv h1), .pv (.int .i32 now2)] [] ⟨.pv (.int .i64 r), [], []⟩ := by
  refine contract_fin hm Try.func42 phold_Rest_ag (by kernel_rfl) ?_
  unfold hold_Rest at h
  refine W.seqOps (RunR.all (by kernel_rfl)) ?_
  refine W.assoc ?_
  replace h := bindS h
  obtain ⟨x3, hx3, h⟩ := h
  refine W.seqOps (RunR.stat 2 (by kernel_rfl) (RunR.cons (tab_cons (on := true) (fun _ => hold_Live_ok hx3) tab_nil) (Step.call0 (g := 40) (caps := []) (v := .pv (.bool x3)) (by kernel_rfl) (by kernel_rfl) (by kernel_rfl) (tab_hit (by kernel_rfl)) (by kernel_rfl)) (RunR.all (by kernel_rfl)))) ?_
  refine W.seqCond (t := !x3) (by kernel_rfl) h (fun hc h' => ?_) (fun hc h' => ?_)
  · replace h := h'
    refine W.assoc ?_
    refine W.seqOps (RunR.all (by kernel_rfl)) ?_
    refine W.seqKeep rfl ?_
    cases h
    exact W.seqRet ((fin_ret (by kernel_rfl)))
  · replace h := h'
    refine W.seqSkip ?_
    refine W.seqOps (RunR.all (by kernel_rfl)) ?_
    refine W.keep rfl ?_
    cases h
    exact W.ret ((fin_ret (by kernel_rfl)))
def phold_Capturer0 : List GOp := [⟨(some 7), none, .box (.tmp 2)⟩, ⟨(some 10), none, .mov .nils⟩, ⟨(some 11), none, .mov (.cst (.int .i64 0))⟩]
def phold_Capturer1 : List GOp := [⟨(some 16), none, .mov (.tmp 0)⟩, ⟨(some 17), none, .call 0 0 (.cst (.fn 36)) [(.tmp 16)] [] []⟩, ⟨(some 12), none, .mov (.tmp 17)⟩]
def phold_Capturer2 : List GOp := [⟨(some 18), none, .mov (.tmp 12)⟩, ⟨(some 19), none, .bin false .neq (.tmp 18) (.cst (.int .i64 0))⟩]
def phold_Capturer3 : List GOp := [⟨(some 20), none, .mov (.tmp 12)⟩, ⟨(some 10), none, .mov .nils⟩, ⟨(some 11), none, .mov (.tmp 20)⟩]
def phold_Capturer4 : List GOp := [⟨(some 22), none, .mov (.tmp 0)⟩, ⟨(some 23), none, .mov (.tmp 1)⟩, ⟨(some 24), none, .call 0 0 (.cst (.fn 82)) [(.tmp 22), (.tmp 23)] [] []⟩, ⟨(some 21), none, .mov (.tmp 24)⟩, ⟨(some 25), none, .ext 0 (.tmp 21)⟩, ⟨(some 26), none, .ext 1 (.tmp 21)⟩, ⟨(some 13), none, .mov (.tmp 25)⟩, ⟨(some 14), none, .mov (.tmp 26)⟩]
def phold_Capturer5 : List GOp := [⟨(some 28), none, .mov (.tmp 14)⟩, ⟨(some 29), none, .un .not (.tmp 28)⟩, ⟨(some 27), none, .mov (.tmp 29)⟩]
def phold_Capturer6 : List GOp := [⟨(some 10), none, .mov .nils⟩, ⟨(some 11), none, .mov (.cst (.int .i64 8))⟩]
def phold_Capturer7 : List GOp := [⟨(some 31), none, .mov (.tmp 0)⟩, ⟨(some 32), none, .mov (.tmp 13)⟩, ⟨(some 33), none, .idx 9 (.tmp 31) (.tmp 32)⟩, ⟨(some 34), none, .load true 9 (.tmp 33)⟩, ⟨(some 35), none, .mov (.tmp 3)⟩, ⟨(some 36), none, .call 0 0 (.cst (.fn 40)) [(.tmp 34), (.tmp 35)] [] []⟩, ⟨(some 37), none, .un .not (.tmp 36)⟩, ⟨(some 30), none, .mov (.tmp 37)⟩]
def phold_Capturer8 : List GOp := [⟨(some 10), none, .mov .nils⟩, ⟨(some 11), none, .mov (.cst (.int .i64 27))⟩]
def phold_Capturer9 : List GOp := [⟨(some 39), none, .fld 0 (.tmp 7)⟩, ⟨(some 40), none, .load false 1 (.tmp 39)⟩, ⟨(some 41), none, .mov (.tmp 0)⟩, ⟨(some 42), none, .mov (.tmp 13)⟩, ⟨(some 43), none, .idx 9 (.tmp 41) (.tmp 42)⟩, ⟨(some 44), none, .fld 2 (.tmp 43)⟩, ⟨(some 45), none, .fld 0 (.tmp 44)⟩, ⟨(some 46), none, .load false 1 (.tmp 45)⟩, ⟨(some 47), none, .bin false .neq (.tmp 40) (.tmp 46)⟩, ⟨(some 38), none, .mov (.tmp 47)⟩]
def phold_Capturer10 : List GOp := [⟨(some 10), none, .mov .nils⟩, ⟨(some 11), none, .mov (.cst (.int .i64 12))⟩]
def phold_Capturer11 : List GOp := [⟨(some 49), none, .load true 2 (.tmp 7)⟩, ⟨(some 50), none, .call 0 0 (.cst (.fn 85)) [(.tmp 49)] [] []⟩, ⟨(some 51), none, .un .not (.tmp 50)⟩, ⟨(some 52), none, .mov (.tmp 51)⟩, ⟨(some 53), (some (52, false)), .fld 1 (.tmp 7)⟩, ⟨(some 54), (some (52, false)), .load false 1 (.tmp 53)⟩, ⟨(some 55), (some (52, false)), .bin false .leq (.tmp 54) (.cst (.int .i64 0))⟩, ⟨(some 56), none, .pick (.tmp 52) (.cst (.bool true)) (.tmp 55)⟩, ⟨(some 48), none, .mov (.tmp 56)⟩]
def phold_Capturer12 : List GOp := [⟨(some 10), none, .mov .nils⟩, ⟨(some 11), none, .mov (.cst (.int .i64 1))⟩]
def phold_Capturer13 : List GOp := [⟨(some 58), none, .fld 1 (.tmp 7)⟩, ⟨(some 59), none, .load false 1 (.tmp 58)⟩, ⟨(some 60), none, .mov (.tmp 0)⟩, ⟨(some 61), none, .mov (.tmp 13)⟩, ⟨(some 62), none, .idx 9 (.tmp 60) (.tmp 61)⟩, ⟨(some 63), none, .load true 9 (.tmp 62)⟩, ⟨(some 64), none, .mov (.tmp 3)⟩, ⟨(some 65), none, .call 0 0 (.cst (.fn 42)) [(.tmp 63), (.tmp 64)] [] []⟩, ⟨(some 66), none, .bin false .gtr (.tmp 59) (.tmp 65)⟩, ⟨(some 57), none, .mov (.tmp 66)⟩]
def phold_Capturer14 : List GOp := [⟨(some 10), none, .mov .nils⟩, ⟨(some 11), none, .mov (.cst (.int .i64 17))⟩]
def phold_Capturer15 : List GOp := [⟨(some 67), none, .mov (.tmp 0)⟩, ⟨(some 68), none, .call 1 0 (.cst (.fn 84)) [(.tmp 67)] [] []⟩, ⟨(some 15), none, .mov (.tmp 68)⟩]
def phold_Capturer16 : List GOp := [⟨(some 69), none, .mov (.tmp 15)⟩, ⟨(some 70), none, .mov (.tmp 13)⟩, ⟨(some 71), none, .idx 9 (.tmp 69) (.tmp 70)⟩, ⟨(some 72), none, .fld 7 (.tmp 71)⟩, ⟨(some 73), none, .load false 1 (.tmp 72)⟩, ⟨(some 74), none, .fld 1 (.tmp 7)⟩, ⟨(some 75), none, .load false 1 (.tmp 74)⟩, ⟨(some 76), none, .bin false .add (.tmp 73) (.tmp 75)⟩, ⟨(some 77), none, .idx 9 (.tmp 69) (.tmp 70)⟩, ⟨(some 78), none, .fld 7 (.tmp 77)⟩, ⟨none, none, .store 1 (.tmp 78) (.tmp 76)⟩]
def phold_Capturer17 : List GOp := [⟨(some 79), none, .mov (.tmp 15)⟩, ⟨(some 80), none, .mov (.tmp 13)⟩, ⟨(some 81), none, .mov (.tmp 4)⟩, ⟨(some 82), none, .mov (.tmp 81)⟩, ⟨(some 83), (some (82, false)), .mov (.tmp 15)⟩, ⟨(some 84), (some (82, false)), .mov (.tmp 13)⟩, ⟨(some 85), (some (82, false)), .idx 9 (.tmp 83) (.tmp 84)⟩, ⟨(some 86), (some (82, false)), .fld 7 (.tmp 85)⟩, ⟨(some 87), (some (82, false)), .load false 1 (.tmp 86)⟩, ⟨(some 88), (some (82, false)), .mov (.tmp 15)⟩, ⟨(some 89), (some (82, false)), .mov (.tmp 13)⟩, ⟨(some 90), (some (82, false)), .idx 9 (.tmp 88) (.tmp 89)⟩, ⟨(some 91), (some (82, false)), .fld 2 (.tmp 90)⟩, ⟨(some 92), (some (82, false)), .fld 1 (.tmp 91)⟩, ⟨(some 93), (some (82, false)), .load false 1 (.tmp 92)⟩, ⟨(some 94), (some (82, false)), .bin false .eql (.tmp 87) (.tmp 93)⟩, ⟨(some 95), none, .pick (.tmp 82) (.cst (.bool true)) (.tmp 94)⟩, ⟨(some 96), none, .idx 9 (.tmp 79) (.tmp 80)⟩, ⟨(some 97), none, .fld 8 (.tmp 96)⟩, ⟨none, none, .store 1 (.tmp 97) (.tmp 95)⟩]
def phold_Capturer18 : List GOp := [⟨(some 98), none, .mov (.tmp 15)⟩, ⟨(some 10), none, .mov (.tmp 98)⟩, ⟨(some 11), none, .mov (.cst (.int .i64 0))⟩]
def phold_Captureb : AC := (.seq (.ops phold_Capturer0) (.seq (.seq (.ops phold_Capturer1) (.seq (.ops phold_Capturer2) (.cond (.tmp 19) (.seq (.ops phold_Capturer3) (.keep [.loc 68 0] [(10, true), (11, false)] [] [.loc 7 0] [] .ret)) .skip))) (.seq (.ops phold_Capturer4) (.seq (.pass 0 (.seq (.ops phold_Capturer5) (.cond (.tmp 27) (.seq (.ops phold_Capturer6) (.keep [.loc 68 0] [(10, true), (11, false)] [] [.loc 7 0] [] .ret)) (.seq (.ops phold_Capturer7) (.cond (.tmp 30) (.seq (.ops phold_Capturer8) (.keep [.loc 68 0] [(10, true), (11, false)] [] [.loc 7 0] [] .ret)) (.seq (.draw [] phold_Capturer9) (.cond (.tmp 38) (.seq (.ops phold_Capturer10) (.keep [.loc 68 0] [(10, true), (11, false)] [] [.loc 7 0] [] .ret)) (.seq (.ops phold_Capturer11) (.cond (.tmp 48) (.seq (.ops phold_Capturer12) (.keep [.loc 68 0] [(10, true), (11, false)] [] [.loc 7 0] [] .ret)) (.seq (.draw [] phold_Capturer13) (.cond (.tmp 57) (.seq (.ops phold_Capturer14) (.keep [.loc 68 0] [(10, true), (11, false)] [] [.loc 7 0] [] .ret)) .skip))))))))))) (.seq (.ops phold_Capturer15) (.seq (.draw [] phold_Capturer16) (.seq (.draw [] phold_Capturer17) (.seq (.ops phold_Capturer18) (.keep [.loc 68 0] [(10, true), (11, false)] [] [.loc 7 0] [] .ret)))))))))
def phold_Capture : Fd := ⟨5, [.tmp 10, .tmp 11], [], phold_Captureb⟩
theorem phold_Capture_ag : agreeF Try.prog Try.f48 phold_Capture = true := by kernel_rfl
theorem hold_Capture_ok {l1 : List T_api_Hold} {id2 : Int} {amount3 : T_api_Money} {now4 : Int} {last5 : Bool} {r : (List T_api_Hold) × Int} (h : hold_Capture l1 id2 amount3 now4 last5 = some r) : Contract Try.prog 48 [.pv (.slice (List.map T_api_Hold.pv l1)), .pv (.int .i64 id2), .pv (T_api_Money.pv amount3), .pv (.int .i32 now4), .pv (.bool last5)] [] ⟨.tup [.pv (.slice (List.map T_api_Hold.pv r.1)), .pv (.int .i64 r.2)], [], []⟩ := by
  refine contract_fin hm Try.func48 phold_Capture_ag (by kernel_rfl) ?_
  unfold hold_Capture at h
  refine W.seqOps (RunR.all (by kernel_rfl)) ?_
  refine W.assoc ?_
  replace h := bindS h
  obtain ⟨x6, hx6, h⟩ := h
  refine W.seqOps (RunR.stat 1 (by kernel_rfl) (RunR.cons (tab_cons (on := true) (fun _ => hold_Check_ok hx6) tab_nil) (Step.call0 (g := 36) (caps := []) (v := .pv (.int .i64 x6)) (by kernel_rfl) (by kernel_rfl) (by kernel_rfl) (tab_hit (by kernel_rfl)) (by kernel_rfl)) (RunR.all (by kernel_rfl)))) ?_
  refine W.assoc ?_
  refine W.seqOps (RunR.all (by kernel_rfl)) ?_
  refine W.seqCond (t := (x6 != 0)) (by kernel_rfl) h (fun hc h' => ?_) (fun hc h' => ?_)
  · replace h := h'
    refine W.assoc ?_
    refine W.seqOps (RunR.all (by kernel_rfl)) ?_
    refine W.seqKeep rfl ?_
    cases h
    exact W.seqRet ((fin_ret (by kernel_rfl)))
  · replace h := h'
    refine W.seqSkip ?_
    replace h := bindS h
    obtain ⟨x7, hx7, h⟩ := h
    refine W.seqOps (RunR.stat 2 (by kernel_rfl) (RunR.cons (tab_cons (on := true) (fun _ => hold_place_ok hx7) tab_nil) (Step.call0 (g := 82) (caps := []) (v := .tup [.pv (.int .i64 x7.1), .pv (.bool x7.2)]) (by kernel_rfl) (by kernel_rfl) (by kernel_rfl) (tab_hit (by kernel_rfl)) (by kernel_rfl)) (RunR.all (by kernel_rfl)))) ?_
    refine W.seqPass ?_
    refine W.assoc ?_
    refine W.seqOps (RunR.all (by kernel_rfl)) ?_
    refine W.seqCond (t := !x7.2) (by kernel_rfl) h (fun hc h' => ?_) (fun hc h' => ?_)
    · replace h := h'
      refine W.assoc ?_
      refine W.seqOps (RunR.all (by kernel_rfl)) ?_
      refine W.seqKeep rfl ?_
      cases h
      exact W.seqRet ((fin_ret (by kernel_rfl)))
    · replace h := h'
      refine W.assoc ?_
      replace h := bindS h
      obtain ⟨x8, hx8, h⟩ := h
      replace h := bindS h
      obtain ⟨x9, hx9, h⟩ := h
      refine W.seqOps (RunR.stat 2 (by kernel_rfl) (RunR.dyn (Step.idxT (f := T_api_Hold.pv) (l := l1) (n := x7.1) (e := x8) (k := .i64) (by kernel_rfl) (by kernel_rfl) hx8 (by kernel_rfl)) (RunR.stat 2 (by kernel_rfl) (RunR.cons (tab_cons (on := true) (fun _ => hold_Live_ok hx9) tab_nil) (Step.call0 (g := 40) (caps := []) (v := .pv (.bool x9)) (by kernel_rfl) (by kernel_rfl) (by kernel_rfl) (tab_hit (by kernel_rfl)) (by kernel_rfl)) (RunR.all (by kernel_rfl)))))) ?_
      refine W.seqCond (t := !x9) (by kernel_rfl) h (fun hc h' => ?_) (fun hc h' => ?_)
      · replace h := h'
        refine W.assoc ?_
        refine W.seqOps (RunR.all (by kernel_rfl)) ?_
        refine W.seqKeep rfl ?_
        cases h
        exact W.seqRet ((fin_ret (by kernel_rfl)))
      · replace h := h'
        refine W.assoc ?_
        replace h := bindS h
        obtain ⟨x10, hx10, h⟩ := h
        refine W.seqDraw tab_nil (Run.stat 4 (by kernel_rfl) (Run.dyn (Step.idxT (f := T_api_Hold.pv) (l := l1) (n := x7.1) (e := x10) (k := .i64) (by kernel_rfl) (by kernel_rfl) hx10 (by kernel_rfl)) (Run.all (by kernel_rfl)))) ?_
        refine W.seqCond (t := (amount3.f_Cur != x10.f_Amount.f_Cur)) (by kernel_rfl) h (fun hc h' => ?_) (fun hc h' => ?_)
        · replace h := h'
          refine W.assoc ?_
          refine W.seqOps (RunR.all (by kernel_rfl)) ?_
          refine W.seqKeep rfl ?_
          cases h
          exact W.seqRet ((fin_ret (by kernel_rfl)))
        · replace h := h'
          refine W.assoc ?_
          replace h := bindS h
          obtain ⟨x11, hx11, h⟩ := h
          replace h := bindS h
          obtain ⟨c12, hc12, h⟩ := h
          refine W.seqOps (RunR.stat 1 (by kernel_rfl) (RunR.cons (tab_cons (on := true) (fun _ => money_Right_ok hx11) tab_nil) (Step.call0 (g := 85) (caps := []) (v := .pv (.bool x11)) (by kernel_rfl) (by kernel_rfl) (by kernel_rfl) (tab_hit (by kernel_rfl)) (by kernel_rfl)) (RunR.stat 1 (by kernel_rfl) (RunR.dyn (Step.name (f := eBool) (e := !x11) (c := c12) (by kernel_rfl) hc12) (RunR.puts 4 [(56, .pv (.bool (c12 || (decide (amount3.f_Minor ≤ 0))))), (55, (bif !c12 then (.pv (.bool (decide (amount3.f_Minor ≤ 0)))) else (.tup []))), (54, (bif !c12 then (.pv (.int .i64 amount3.f_Minor)) else (.tup []))), (53, (bif !c12 then (.ptr (.loc 7 0) 1) else (.tup [])))] (by cases c12 <;> kernel_rfl) (RunR.all (by kernel_rfl))))))) ?_
          refine W.seqCond (t := (c12 || (decide (amount3.f_Minor ≤ 0)))) (by kernel_rfl) h (fun hc h' => ?_) (fun hc h' => ?_)
          · replace h := h'
            refine W.assoc ?_
            refine W.seqOps (RunR.all (by kernel_rfl)) ?_
            refine W.seqKeep rfl ?_
            cases h
            exact W.seqRet ((fin_ret (by kernel_rfl)))
          · replace h := h'
            refine W.assoc ?_
            replace h := bindS h
            obtain ⟨x13, hx13, h⟩ := h
            replace h := bindS h
            obtain ⟨x14, hx14, h⟩ := h
            refine W.seqDraw (tab_cons (on := true) (fun _ => hold_Rest_ok hx14) tab_nil) (Run.stat 4 (by kernel_rfl) (Run.dyn (Step.idxT (f := T_api_Hold.pv) (l := l1) (n := x7.1) (e := x13) (k := .i64) (by kernel_rfl) (by kernel_rfl) hx13 (by kernel_rfl)) (Run.stat 2 (by kernel_rfl) (Run.dyn (Step.call0 (g := 42) (caps := []) (v := .pv (.int .i64 x14)) (by kernel_rfl) (by kernel_rfl) (by kernel_rfl) (tab_hit (by kernel_rfl)) (by kernel_rfl)) (Run.all (by kernel_rfl)))))) ?_
            refine W.seqCond (t := decide (amount3.f_Minor > x14)) (by kernel_rfl) h (fun hc h' => ?_) (fun hc h' => ?_)
            · replace h := h'
              refine W.assoc ?_
              refine W.seqOps (RunR.all (by kernel_rfl)) ?_
              refine W.seqKeep rfl ?_
              cases h
              exact W.seqRet ((fin_ret (by kernel_rfl)))
            · replace h := h'
              refine W.seqSkip ?_
              replace h := bindS h
              obtain ⟨x15, hx15, h⟩ := h
              refine W.seqOps (RunR.stat 1 (by kernel_rfl) (RunR.cons (tab_cons (on := true) (fun _ => slices_Clone84_ok hx15) tab_nil) (Step.callS (g := 84) (caps := []) (v := .own (.loc 68 0)) (ins := [(.loc 68 0, .row 9 (List.map T_api_Hold.pv x15))]) (by kernel_rfl) (by kernel_rfl) (by kernel_rfl) (tab_hit (by kernel_rfl)) (by kernel_rfl)) (RunR.all (by kernel_rfl)))) ?_
              replace h := bindS h
              obtain ⟨x16, hx16, h⟩ := h
              replace h := bindS h
              obtain ⟨x17, hx17, h⟩ := h
              refine W.seqDraw tab_nil (Run.stat 2 (by kernel_rfl) (Run.dyn (Step.idxOwnT (k := .loc 68 0) (f := T_api_Hold.pv) (l := x15) (n := x7.1) (e := x16) (kd := .i64) (by kernel_rfl) (by kernel_rfl) (by kernel_rfl) hx16) (Run.stat 1 (by kernel_rfl) (Run.dyn (Step.loadRowT (off := 7) (k := .loc 68 0) (f := T_api_Hold.pv) (l := x15) (i := x7.1) (e := x16) (sz := 9) (v := .pv (.int .i64 x16.f_Taken)) (by kernel_rfl) (by kernel_rfl) hx16 (by kernel_rfl) (by kernel_rfl)) (Run.stat 3 (by kernel_rfl) (Run.dyn (Step.idxOwnT (k := .loc 68 0) (f := T_api_Hold.pv) (l := x15) (n := x7.1) (e := x17) (kd := .i64) (by kernel_rfl) (by kernel_rfl) (by kernel_rfl) hx17) (Run.stat 1 (by kernel_rfl) (Run.dyn (Step.storeRowT (sz := 9) (off := 7) (k := .loc 68 0) (f := T_api_Hold.pv) (l := x15) (i := x7.1) (e := x17) (e' := (⟨x17.f_ID, x17.f_Acc, x17.f_Amount, x17.f_Rank, x17.f_Made, x17.f_Until, IntKind.wrap .i64 (x16.f_Taken + amount3.f_Minor), x17.f_Done⟩ : T_api_Hold)) (v := (.int .i64 (IntKind.wrap .i64 (x16.f_Taken + amount3.f_Minor)))) (by kernel_rfl) (by kernel_rfl) (by kernel_rfl) hx17 (by kernel_rfl) (by kernel_rfl)) ((Run.nil)))))))))) ?_
              replace h := bindS h
              obtain ⟨x18, hx18, h⟩ := h
              replace h := bindS h
              obtain ⟨x19, hx19, h⟩ := h
              replace h := bindS h
              obtain ⟨x20, hx20, h⟩ := h
              refine W.seqDraw tab_nil (Run.stat 4 (by kernel_rfl) (Run.puts 2 [(84, (bif !last5 then (.pv (.int .i64 x7.1)) else (.tup []))), (83, (bif !last5 then (.own (.loc 68 0)) else (.tup [])))] (by cases last5 <;> kernel_rfl) (Run.dyn (Step.gdG (!last5) (by kernel_rfl) (by
                    cases last5
                    · exact .inr ⟨by kernel_rfl, by kernel_rfl, Step.idxOwnT (k := .loc 68 0) (f := T_api_Hold.pv) (l := (List.set x15 (Int.toNat x7.1) (⟨x17.f_ID, x17.f_Acc, x17.f_Amount, x17.f_Rank, x17.f_Made, x17.f_Until, IntKind.wrap .i64 (x16.f_Taken + amount3.f_Minor), x17.f_Done⟩ : T_api_Hold))) (n := x7.1) (e := x18) (kd := .i64) (by kernel_rfl) (by kernel_rfl) (by kernel_rfl) hx18⟩
                    · exact .inl ⟨by kernel_rfl, by kernel_rfl⟩)) (Run.puts 1 [(86, (bif !last5 then (.iown (.loc 68 0) (Int.toNat x7.1) 7) else (.tup [])))] (by cases last5 <;> kernel_rfl) (Run.dyn (Step.gdG (!last5) (by kernel_rfl) (by
                    cases last5
                    · exact .inr ⟨by kernel_rfl, by kernel_rfl, Step.loadRowT (off := 7) (k := .loc 68 0) (f := T_api_Hold.pv) (l := (List.set x15 (Int.toNat x7.1) (⟨x17.f_ID, x17.f_Acc, x17.f_Amount, x17.f_Rank, x17.f_Made, x17.f_Until, IntKind.wrap .i64 (x16.f_Taken + amount3.f_Minor), x17.f_Done⟩ : T_api_Hold))) (i := x7.1) (e := x18) (sz := 9) (v := .pv (.int .i64 x18.f_Taken)) (by kernel_rfl) (by kernel_rfl) hx18 (by kernel_rfl) (by kernel_rfl)⟩
                    · exact .inl ⟨by kernel_rfl, by kernel_rfl⟩)) (Run.puts 2 [(89, (bif !last5 then (.pv (.int .i64 x7.1)) else (.tup []))), (88, (bif !last5 then (.own (.loc 68 0)) else (.tup [])))] (by cases last5 <;> kernel_rfl) (Run.dyn (Step.gdG (!last5) (by kernel_rfl) (by
                    cases last5
                    · exact .inr ⟨by kernel_rfl, by kernel_rfl, Step.idxOwnT (k := .loc 68 0) (f := T_api_Hold.pv) (l := (List.set x15 (Int.toNat x7.1) (⟨x17.f_ID, x17.f_Acc, x17.f_Amount, x17.f_Rank, x17.f_Made, x17.f_Until, IntKind.wrap .i64 (x16.f_Taken + amount3.f_Minor), x17.f_Done⟩ : T_api_Hold))) (n := x7.1) (e := x19) (kd := .i64) (by kernel_rfl) (by kernel_rfl) (by kernel_rfl) hx19⟩
                    · exact .inl ⟨by kernel_rfl, by kernel_rfl⟩)) (Run.puts 2 [(92, (bif !last5 then (.iown (.loc 68 0) (Int.toNat x7.1) 3) else (.tup []))), (91, (bif !last5 then (.iown (.loc 68 0) (Int.toNat x7.1) 2) else (.tup [])))] (by cases last5 <;> kernel_rfl) (Run.dyn (Step.gdG (!last5) (by kernel_rfl) (by
                    cases last5
                    · exact .inr ⟨by kernel_rfl, by kernel_rfl, Step.loadRowT (off := 3) (k := .loc 68 0) (f := T_api_Hold.pv) (l := (List.set x15 (Int.toNat x7.1) (⟨x17.f_ID, x17.f_Acc, x17.f_Amount, x17.f_Rank, x17.f_Made, x17.f_Until, IntKind.wrap .i64 (x16.f_Taken + amount3.f_Minor), x17.f_Done⟩ : T_api_Hold))) (i := x7.1) (e := x19) (sz := 9) (v := .pv (.int .i64 x19.f_Amount.f_Minor)) (by kernel_rfl) (by kernel_rfl) hx19 (by kernel_rfl) (by kernel_rfl)⟩
                    · exact .inl ⟨by kernel_rfl, by kernel_rfl⟩)) (Run.puts 2 [(95, .pv (.bool (last5 || (x18.f_Taken == x19.f_Amount.f_Minor)))), (94, (bif !last5 then (.pv (.bool (x18.f_Taken == x19.f_Amount.f_Minor))) else (.tup [])))] (by cases last5 <;> kernel_rfl) (Run.dyn (Step.idxOwnT (k := .loc 68 0) (f := T_api_Hold.pv) (l := (List.set x15 (Int.toNat x7.1) (⟨x17.f_ID, x17.f_Acc, x17.f_Amount, x17.f_Rank, x17.f_Made, x17.f_Until, IntKind.wrap .i64 (x16.f_Taken + amount3.f_Minor), x17.f_Done⟩ : T_api_Hold))) (n := x7.1) (e := x20) (kd := .i64) (by kernel_rfl) (by kernel_rfl) (by kernel_rfl) hx20) (Run.stat 1 (by kernel_rfl) (Run.dyn (Step.storeRowT (sz := 9) (off := 8) (k := .loc 68 0) (f := T_api_Hold.pv) (l := (List.set x15 (Int.toNat x7.1) (⟨x17.f_ID, x17.f_Acc, x17.f_Amount, x17.f_Rank, x17.f_Made, x17.f_Until, IntKind.wrap .i64 (x16.f_Taken + amount3.f_Minor), x17.f_Done⟩ : T_api_Hold))) (i := x7.1) (e := x20) (e' := (⟨x20.f_ID, x20.f_Acc, x20.f_Amount, x20.f_Rank, x20.f_Made, x20.f_Until, x20.f_Taken, (last5 || (x18.f_Taken == x19.f_Amount.f_Minor))⟩ : T_api_Hold)) (v := (.bool (last5 || (x18.f_Taken == x19.f_Amount.f_Minor)))) (by kernel_rfl) (by kernel_rfl) (by kernel_rfl) hx20 (by kernel_rfl) (by kernel_rfl)) ((Run.nil))))))))))))))) ?_
              refine W.seqOps (RunR.all (by kernel_rfl)) ?_
              refine W.keep rfl ?_
              cases h
              exact W.ret ((fin_ret (by kernel_rfl)))
def qthose_r0 : List GOp := [⟨(some 4), none, .box (.tmp 0)⟩, ⟨(some 5), none, .box (.tmp 1)⟩, ⟨(some 6), none, .box (.tmp 2)⟩, ⟨(some 7), none, .box (.tmp 3)⟩, ⟨(some 8), none, .mov (.cst .nilFn)⟩]
def qthose_r1 : List GOp := [⟨(some 9), none, .mkfn 106 [(.tmp 4), (.tmp 5), (.tmp 6), (.tmp 7)]⟩, ⟨(some 8), none, .mov (.tmp 9)⟩]
def qthose_b : AC := (.seq (.ops qthose_r0) (.seq (.ops qthose_r1) (.keep [.loc 4 0, .loc 5 0, .loc 6 0, .loc 7 0] [(8, false)] [] [] [] .ret)))
def qthose : Fd := ⟨4, [.tmp 8], [], qthose_b⟩
theorem qthose_ag : agreeF Try.prog Try.f76 qthose = true := by kernel_rfl
theorem those_bare {l : List PV} {acc cur now : Int} : Contract Try.prog 76 [.pv (.slice l), .pv (.int .i64 acc), .pv (.int .i64 cur), .pv (.int .i32 now)] [] ⟨.fn 106 [.ipv (.agg [.slice l]) 0, .ipv (.agg [.int .i64 acc]) 0, .ipv (.agg [.int .i64 cur]) 0, .ipv (.agg [.int .i32 now]) 0], [], []⟩ := by
  refine contract_fin hm Try.func76 qthose_ag (by kernel_rfl) ?_
  refine W.seqOps (RunR.all (by kernel_rfl)) ?_
  refine W.seqOps (RunR.all (by kernel_rfl)) ?_
  refine W.keep rfl ?_
  exact W.ret ((fin_ret (by kernel_rfl)))
def it_r0 : List GOp := [⟨(some 8), none, .load false 1 (.tmp 1)⟩, ⟨(some 9), none, .len false (.tmp 8)⟩, ⟨(some 10), none, .mov (.cst (.int .i64 0))⟩]
def it_r1 : List GOp := [⟨(some 11), none, .bin false .lss (.tmp 10) (.tmp 9)⟩]
def it_r2 : List GOp := [⟨(some 12), none, .idx 9 (.tmp 8) (.tmp 10)⟩, ⟨(some 13), none, .load true 9 (.tmp 12)⟩, ⟨(some 7), none, .alloc [.pv (.int .i64 0), .pv (.int .i64 0), .pv (.int .i64 0), .pv (.int .i64 0), .pv (.int .i64 0), .pv (.int .i32 0), .pv (.int .i32 0), .pv (.int .i64 0), .pv (.bool false)]⟩, ⟨none, none, .store 9 (.tmp 7) (.tmp 13)⟩]
def it_r3a : List GOp := [⟨(some 14), none, .fld 1 (.tmp 7)⟩, ⟨(some 15), none, .load false 1 (.tmp 14)⟩, ⟨(some 16), none, .load false 1 (.tmp 2)⟩, ⟨(some 17), none, .bin false .eql (.tmp 15) (.tmp 16)⟩, ⟨(some 18), none, .mov (.tmp 17)⟩, ⟨(some 19), (some (18, true)), .fld 2 (.tmp 7)⟩, ⟨(some 20), (some (18, true)), .fld 0 (.tmp 19)⟩, ⟨(some 21), (some (18, true)), .load false 1 (.tmp 20)⟩, ⟨(some 22), (some (18, true)), .load false 1 (.tmp 3)⟩, ⟨(some 23), (some (18, true)), .bin false .eql (.tmp 21) (.tmp 22)⟩, ⟨(some 24), none, .pick (.tmp 18) (.tmp 23) (.cst (.bool false))⟩, ⟨(some 25), none, .mov (.tmp 24)⟩, ⟨(some 26), (some (25, true)), .load true 9 (.tmp 7)⟩, ⟨(some 27), (some (25, true)), .load false 1 (.tmp 4)⟩, ⟨(some 28), (some (25, true)), .call 0 0 (.cst (.fn 40)) [(.tmp 26), (.tmp 27)] [] []⟩, ⟨(some 29), none, .pick (.tmp 25) (.tmp 28) (.cst (.bool false))⟩, ⟨(some 30), none, .mov (.tmp 29)⟩, ⟨(some 31), (some (30, true)), .mov (.tmp 0)⟩, ⟨(some 32), (some (30, true)), .load true 9 (.tmp 7)⟩]
def it_c : List GOp := [⟨(some 33), (some (30, true)), .call 0 0 (.tmp 31) [(.tmp 32)] [] []⟩]
def it_r3b : List GOp := [⟨(some 34), (some (30, true)), .un .not (.tmp 33)⟩, ⟨(some 35), none, .pick (.tmp 30) (.tmp 34) (.cst (.bool false))⟩]
def it_r4 : List GOp := [⟨(some 36), none, .bin false .add (.tmp 10) (.cst (.int .i64 1))⟩, ⟨(some 10), none, .mov (.tmp 36)⟩]
/-- The whole text, as if yield were never called. -/
def it_b : AC := .seq (.ops it_r0) (.block 0 (.loop [] [] (.seq (.ops it_r1) (.seq (.cond (.tmp 11) .skip (.exit 0)) (.seq (.block 1 (.seq (.ops it_r2) (.seq (.ops (it_r3a ++ it_c ++ it_r3b)) (.cond (.tmp 35) .ret .skip)))) (.ops it_r4))))))
def it : Fd := ⟨5, [], [], it_b⟩
theorem it_ag : agreeF Try.prog Try.f106 it = true := by kernel_rfl

/-! ### What it tells -/

def it_ks : List Nat := [0, 1, 2, 3, 4, 8, 9, 10]
/-- The state at the loop's head. -/
def it_hd (L : Nat) (l : List T_api_Hold) (acc cur now i : Int) : St := ⟨[(0, .pv (.yld L)), (1, .ipv (.agg [.slice (l.map T_api_Hold.pv)]) 0), (2, .ipv (.agg [.int .i64 acc]) 0), (3, .ipv (.agg [.int .i64 cur]) 0), (4, .ipv (.agg [.int .i32 now]) 0),
  (8, .pv (.slice (l.map T_api_Hold.pv))), (9, .pv (.int .i64 (l.length : Int))), (10, .pv (.int .i64 i))], []⟩
/-- The state behind yield. -/
def it_hy (L : Nat) (l : List T_api_Hold) (acc cur now i : Int) : St := (⟨(30, .pv (.bool true)) :: (it_hd L l acc cur now i).sl, []⟩ : St).put (some 33) (.pv (.bool true))

section
variable {L : Nat} {l : List T_api_Hold} {acc cur now i : Int} {h : T_api_Hold}

theorem it_start : ∃ σ', RunR Try.prog it_r0 (enter [.pv (.yld L), .ipv (.agg [.slice (l.map T_api_Hold.pv)]) 0, .ipv (.agg [.int .i64 acc]) 0, .ipv (.agg [.int .i64 cur]) 0, .ipv (.agg [.int .i32 now]) 0] []) σ' ∧ keepS σ' it_ks = (it_hd L l acc cur now 0).sl ∧ (it_ks.all fun t => (σ'.get t).bare) = true :=
  ⟨_, RunR.stat 1 (by kernel_rfl) (RunR.dyn (Step.lenT (f := T_api_Hold.pv) (l := l) (by kernel_rfl)) (RunR.all (by kernel_rfl))), by kernel_rfl, by kernel_rfl⟩

/-- Behind the loop's question. -/
def it_s1 (L : Nat) (l : List T_api_Hold) (acc cur now i : Int) : St := (it_hd L l acc cur now i).goes noCl false it_r1
/-- An element is at hand. -/
def it_s2 (L : Nat) (l : List T_api_Hold) (acc cur now i : Int) (h : T_api_Hold) : St := ((it_s1 L l acc cur now i).put (some 12) (.ipv (T_api_Hold.pv h) 0)).goes noCl false (it_r2.drop 1)

theorem it_more : RunR Try.prog it_r1 (it_hd L l acc cur now i) (it_s1 L l acc cur now i) ∧ (it_s1 L l acc cur now i).ev (.tmp 11) = .pv (.bool (decide (i < (l.length : Int)))) :=
  ⟨RunR.all (by kernel_rfl), by kernel_rfl⟩

theorem it_elem (he : rdO l i = some h) : RunR Try.prog it_r2 (it_s1 L l acc cur now i) (it_s2 L l acc cur now i h) :=
  RunR.dyn (Step.idxT (f := T_api_Hold.pv) (l := l) (k := .i64) (by kernel_rfl) (by kernel_rfl) he (by kernel_rfl)) (RunR.all (by kernel_rfl))

theorem it_no (hs : selO acc cur now h = some false) (hb : IntKind.wrap .i64 (i + 1) = i + 1) : ∃ σ3 σ4, RunR Try.prog (it_r3a ++ it_c ++ it_r3b) (it_s2 L l acc cur now i h) σ3 ∧ σ3.ev (.tmp 35) = .pv (.bool false) ∧ RunR Try.prog it_r4 σ3 σ4 ∧ keepS σ4 it_ks = (it_hd L l acc cur now (i + 1)).sl ∧ (it_ks.all fun t => (σ4.get t).bare) = true := by
  unfold selO at hs
  cases hc1 : (h.f_Acc == acc) with
  | false =>
    have hc1 : some (h.f_Acc == acc) = some false := by rw [hc1]
    refine ⟨_, _, RunR.stat 4 (by kernel_rfl) (RunR.cons noCl_sound (Step.name (f := PV.bool) (e := h.f_Acc == acc) (c := false) (by kernel_rfl) hc1) (RunR.all (by kernel_rfl))), by kernel_rfl, RunR.all (by kernel_rfl), ?_, by kernel_rfl⟩
    rw [← hb]; kernel_rfl
  | true =>
    rw [hc1, if_pos rfl] at hs
    have hc1 : some (h.f_Acc == acc) = some true := by rw [hc1]
    cases hc2 : (h.f_Amount.f_Cur == cur) with
    | false =>
      have hc2 : some (h.f_Amount.f_Cur == cur) = some false := by rw [hc2]
      refine ⟨_, _, RunR.stat 4 (by kernel_rfl) (RunR.cons noCl_sound (Step.name (f := PV.bool) (e := h.f_Acc == acc) (c := true) (by kernel_rfl) hc1) (RunR.stat 6 (by kernel_rfl) (RunR.cons noCl_sound (Step.name (f := PV.bool) (e := h.f_Amount.f_Cur == cur) (c := false) (by kernel_rfl) hc2) (RunR.all (by kernel_rfl))))), by kernel_rfl, RunR.all (by kernel_rfl), ?_, by kernel_rfl⟩
      rw [← hb]; kernel_rfl
    | true =>
      rw [hc2, if_pos rfl] at hs
      have hc2 : some (h.f_Amount.f_Cur == cur) = some true := by rw [hc2]
      refine ⟨_, _, RunR.stat 4 (by kernel_rfl) (RunR.cons noCl_sound (Step.name (f := PV.bool) (e := h.f_Acc == acc) (c := true) (by kernel_rfl) hc1) (RunR.stat 6 (by kernel_rfl) (RunR.cons noCl_sound (Step.name (f := PV.bool) (e := h.f_Amount.f_Cur == cur) (c := true) (by kernel_rfl) hc2) (RunR.stat 2 (by kernel_rfl)
        (RunR.cons (tab_cons (on := true) (fun _ => hold_Live_ok hs) tab_nil) (Step.gdG (v := .pv (.bool false)) true rfl (.inr ⟨rfl, by kernel_rfl, Step.call0 (g := 40) (caps := []) (v := .pv (.bool false)) (by kernel_rfl) (by kernel_rfl) (by kernel_rfl) (tab_hit (by kernel_rfl)) (by kernel_rfl)⟩)) (RunR.all (by kernel_rfl))))))), by kernel_rfl, RunR.all (by kernel_rfl), ?_, by kernel_rfl⟩
      rw [← hb]; kernel_rfl

theorem it_yes (hs : selO acc cur now h = some true) : ∃ σ3, RunR Try.prog it_r3a (it_s2 L l acc cur now i h) σ3 ∧ σ3.wants (some (30, true)) = some true ∧ σ3.ev (.tmp 31) = .pv (.yld L) ∧ σ3.ev (.tmp 32) = .pv (T_api_Hold.pv h) ∧
    keepS σ3 (30 :: it_ks) = (30, .pv (.bool true)) :: (it_hd L l acc cur now i).sl ∧ ((30 :: it_ks).all fun t => (σ3.get t).bare) = true := by
  unfold selO at hs
  cases hc1 : (h.f_Acc == acc) with
  | false => rw [hc1] at hs; cases hs
  | true =>
    rw [hc1, if_pos rfl] at hs
    have hc1 : some (h.f_Acc == acc) = some true := by rw [hc1]
    cases hc2 : (h.f_Amount.f_Cur == cur) with
    | false => rw [hc2] at hs; cases hs
    | true =>
      rw [hc2, if_pos rfl] at hs
      have hc2 : some (h.f_Amount.f_Cur == cur) = some true := by rw [hc2]
      exact ⟨_, RunR.stat 4 (by kernel_rfl) (RunR.cons noCl_sound (Step.name (f := PV.bool) (e := h.f_Acc == acc) (c := true) (by kernel_rfl) hc1) (RunR.stat 6 (by kernel_rfl) (RunR.cons noCl_sound (Step.name (f := PV.bool) (e := h.f_Amount.f_Cur == cur) (c := true) (by kernel_rfl) hc2) (RunR.stat 2 (by kernel_rfl)
        (RunR.cons (tab_cons (on := true) (fun _ => hold_Live_ok hs) tab_nil) (Step.gdG (v := .pv (.bool true)) true rfl (.inr ⟨rfl, by kernel_rfl, Step.call0 (g := 40) (caps := []) (v := .pv (.bool true)) (by kernel_rfl) (by kernel_rfl) (by kernel_rfl) (tab_hit (by kernel_rfl)) (by kernel_rfl)⟩)) (RunR.all (by kernel_rfl))))))), by kernel_rfl, by kernel_rfl, by kernel_rfl, by kernel_rfl, by kernel_rfl⟩

theorem it_back (hb : IntKind.wrap .i64 (i + 1) = i + 1) : ∃ σ3 σ4, RunR Try.prog it_r3b (it_hy L l acc cur now i) σ3 ∧ σ3.ev (.tmp 35) = .pv (.bool false) ∧ RunR Try.prog it_r4 σ3 σ4 ∧ keepS σ4 it_ks = (it_hd L l acc cur now (i + 1)).sl ∧ (it_ks.all fun t => (σ4.get t).bare) = true := by
  refine ⟨_, _, RunR.all (by kernel_rfl), by kernel_rfl, RunR.all (by kernel_rfl), ?_, by kernel_rfl⟩
  rw [← hb]; kernel_rfl
end

/-! ### The walk -/
def it_rd : AC := .seq (.ops it_r1) (.seq (.cond (.tmp 11) .skip (.exit 0)) (.seq (.block 1 (.seq (.ops it_r2) (.seq (.ops (it_r3a ++ it_c ++ it_r3b)) (.cond (.tmp 35) .ret .skip)))) (.ops it_r4)))

theorem rdO_mid {α : Type} (pre : List α) (x : α) (t : List α) : rdO (pre ++ x :: t) (pre.length : Int) = some x := by
  unfold rdO
  rw [if_pos (by omega)]
  simp

theorem yieldAt_mono {P : Program} {l : Nat} {vs : Array Value} {w : World} {R R' : Ending → World → Prop} (h : YieldAt Fence.wide 0 P l vs w R) (hR : ∀ e w', R e w' → R' e w') : YieldAt Fence.wide 0 P l vs w R' := by
  obtain ⟨fn, tmps, x, y, h1, h2⟩ := h
  exact ⟨fn, tmps, x, y, h1, h2.mono hR⟩

theorem pv_flat {x : PV} {v : Value} {w : World} {ok : Nat → Prop} (h : Lies w ok x v) (hs : x.scalar = true) : Lies w (fun _ => False) x v := scalar_lies h hs

section
variable {L : Nat} {l r : List T_api_Hold} {acc cur now : Int} {J : Nat → (Nat → Prop) → World → Prop} {γ : Nat → Blk} {nt : Nat}

theorem it_loop (hnt : 33 < nt) (hlen : (l.length : Int) < 4611686018427387904)
    (hg : ∀ i Z W W', J i Z W → W.grownBy W' none → J i (fun b => Z b ∨ (W.heap.size ≤ b ∧ b < W'.heap.size)) W')
    (hy : ∀ (i : Nat) (Z : Nat → Prop) (x : PV) (v : Value) (W : World), (r.map T_api_Hold.pv)[i]? = some x → Lies W (fun _ => False) x v → J i Z W →
      YieldAt Fence.wide 0 Try.prog L #[v] W fun e W' => e = .returned (.bool true) ∧ J (i + 1) Z W' ∧ W.heap.size ≤ W'.heap.size ∧ ∀ b, Z b → W'.heap[b]? = W.heap[b]?)
    {Q : Exit → Act → World → Prop} {c : Code} (hc : agreeCode Try.prog nt c it_rd = true)
    (hQ : ∀ (C : Ctx) (β : Key → Blk) (σ : St) (a : Act) (w : World) (Z : Nat → Prop), C.nt = nt → C.ext = [] → C.dfs = [] → RR C β σ a w → J r.length Z w → Q (.exit 0) a w) :
    ∀ (rest pre r' pk : List T_api_Hold) (Z : Nat → Prop) (W : World) (a : Act) (β : Key → Blk), pre ++ rest = l → itO acc cur now rest = some r' → pk ++ r' = r → (∀ b, Z b → b < W.heap.size) → J pk.length Z W →
      RR ⟨W, [], γ, nt, Z, []⟩ β (it_hd L l acc cur now (pre.length : Int)) a W → Lp none 0 Try.prog c Q a W := by
  intro rest
  induction rest with
  | nil =>
    intro pre r' pk Z W a β hl hr hp hZ hJ h
    cases hr
    rw [List.append_nil] at hl hp
    subst hl; subst hp
    refine lp_round ?_
    have hb : (it_s1 L pre acc cur now (pre.length : Int)).ev (.tmp 11) = .pv (.bool false) := by
      rw [(it_more (L := L) (l := pre) (acc := acc) (cur := cur) (now := now)).2]; simp
    have hev : Ev Try.prog it_rd (it_hd L pre acc cur now (pre.length : Int)) (.exit 0) (it_s1 L pre acc cur now (pre.length : Int)) :=
      .seq (.ops it_more.1) (.seq_out (.cond hb (.exit 0 _)) (by simp))
    refine (ev_sound (C := ⟨W, [], γ, nt, Z, []⟩) hm hev c β a W _ hc h (fun β' a' w' h' => ?_)).1
    exact hQ _ _ _ _ _ _ rfl rfl rfl h' (hg _ _ _ _ hJ h'.away)
  | cons x t ih =>
    intro pre r' pk Z W a β hl hr hp hZ hJ h
    subst hl
    have hi : decide ((pre.length : Int) < ((pre ++ x :: t).length : Int)) = true := by
      rw [decide_eq_true_iff]; simp only [List.length_append, List.length_cons]; omega
    have hw : IntKind.wrap .i64 ((pre.length : Int) + 1) = (pre.length : Int) + 1 := by
      have : (pre.length : Int) < 4611686018427387904 := by simp only [List.length_append, List.length_cons] at hlen; omega
      rw [IntKind.wrap_i64]; omega
    have hb : (it_s1 L (pre ++ x :: t) acc cur now (pre.length : Int)).ev (.tmp 11) = .pv (.bool true) := by
      rw [(it_more (L := L) (l := pre ++ x :: t) (acc := acc) (cur := cur) (now := now)).2, hi]
    have he : rdO (pre ++ x :: t) (pre.length : Int) = some x := rdO_mid pre x t
    have hnx : ((pre ++ [x]).length : Int) = (pre.length : Int) + 1 := by simp
    simp only [itO, Option.bind_eq_some_iff, Option.map_eq_some_iff] at hr
    obtain ⟨b, hs, r1, hr1, hrr⟩ := hr
    refine lp_round ?_
    cases b with
    | false =>
      simp only [cond_false] at hrr
      subst hrr
      obtain ⟨σ3, σ4, q1, q2, q3, q4, q5⟩ := it_no (L := L) (l := pre ++ x :: t) (i := (pre.length : Int)) hs hw
      have hev : Ev Try.prog it_rd (it_hd L (pre ++ x :: t) acc cur now (pre.length : Int)) .norm σ4 :=
        .seq (.ops it_more.1) (.seq (.cond hb (.skip _)) (.seq (.block (.seq (.ops (it_elem he)) (.seq (.ops q1) (.cond q2 (.skip _))))) (.ops q3)))
      refine (ev_sound (C := ⟨W, [], γ, nt, Z, []⟩) hm hev c β a W _ hc h (fun β' a' w' h' => ?_)).1
      have h2 := h'.anew hZ it_ks q5 (W' := w') (fun b _ => rfl) (Nat.le_refl _)
      rw [q4, ← hnx] at h2
      refine ih (pre ++ [x]) r1 pk _ w' a' β' (by simp) hr1 hp (fun b hb => ?_) (hg _ _ _ _ hJ h'.away) h2
      rcases hb with q | q
      · have := hZ b q; have := h'.size; simp at this; omega
      · exact q.2
    | true =>
      simp only [cond_true] at hrr
      subst hrr
      obtain ⟨σ3, q1, q2, q3, q4, q5, q6⟩ := it_yes (L := L) (l := pre ++ x :: t) (i := (pre.length : Int)) hs
      obtain ⟨σ4, σ5, p1, p2, p3, p4, p5⟩ := it_back (L := L) (l := pre ++ x :: t) (acc := acc) (cur := cur) (now := now) hw
      obtain ⟨c1, c2, rfl, g1, g2⟩ := ag_seq hc
      obtain ⟨c3, c4, rfl, g3, g4⟩ := ag_seq g2
      obtain ⟨c5, c6, rfl, g5, g6⟩ := ag_seq g4
      obtain ⟨c7, rfl, g7⟩ := ag_block g5
      obtain ⟨c8, c9, rfl, g8, g9⟩ := ag_seq g7
      obtain ⟨c10, c11, rfl, g10, g11⟩ := ag_seq g9
      obtain ⟨id, ops, rfl, g12⟩ := ag_ops g10
      refine wpIn_seq ((ev_sound (C := ⟨W, [], γ, nt, Z, []⟩) hm (.ops it_more.1) c1 β a W _ g1 h (fun β1 a1 w1 h1 => ?_)).1)
      refine wpIn_seq ((ev_sound (C := ⟨W, [], γ, nt, Z, []⟩) hm (.cond hb (.skip _)) c3 β1 a1 w1 _ g3 h1 (fun β1 a1 w1 h1 => ?_)).1)
      refine wpIn_seq (wpIn_block ?_)
      refine wpIn_seq ((ev_sound (C := ⟨W, [], γ, nt, Z, []⟩) hm (.ops (it_elem he)) c8 β1 a1 w1 _ g8 h1 (fun β1 a1 w1 h1 => ?_)).1)
      refine wpIn_seq (wpIn_region_list ?_)
      obtain ⟨la, lb, hab, ga, gb⟩ := all2_app g12
      obtain ⟨la1, la2, hab2, ga1, ga2⟩ := all2_app ga
      subst hab2
      rw [hab, List.append_assoc]
      refine sound_opsA q1 h1 ga1 (fun β2 a2 w2 h2 => ?_)
      cases la2 with
      | nil => simp [it_c, all2] at ga2
      | cons o la3 =>
        cases la3 with
        | cons _ _ => simp [it_c, all2] at ga2
        | nil =>
          simp only [it_c, all2, Bool.and_true] at ga2
          refine sound_yield (rest := lb) h2 ga2 rfl q2 q3 (fun v hv => ?_)
          rw [q4] at hv
          have hlv : Lies w2 (fun _ => False) (T_api_Hold.pv x) v := scalar_lies (slies_pv hv) (by kernel_rfl)
          have hJ2 := hg _ _ _ _ hJ h2.away
          have hxk : (r.map T_api_Hold.pv)[pk.length]? = some (T_api_Hold.pv x) := by rw [← hp]; simp
          refine yieldAt_mono (hy pk.length _ _ v w2 hxk hlv hJ2) ?_
          rintro e W3 ⟨rfl, hJ3, hsz3, hk3⟩
          refine ⟨_, rfl, ?_⟩
          have h3 := h2.anew hZ (30 :: it_ks) q6 (W' := W3) (fun b hb => hk3 b hb) hsz3
          rw [q5] at h3
          have h4 := h3.put (some 33) (.pv (.bool true)) (.bool true) (fun i hi => by cases hi; exact hnt) (.pv _ _ (.bool _))
          refine sound_opsR p1 h4 gb (fun β5 a5 w5 h5 => ?_)
          refine (ev_sound (C := ⟨W3, [], γ, nt, more Z W w2, []⟩) hm (.cond p2 (.skip _)) c11 β5 a5 w5 _ g11 h5 (fun β6 a6 w6 h6 => ?_)).1
          refine (ev_sound (C := ⟨W3, [], γ, nt, more Z W w2, []⟩) hm (.ops p3) c6 β6 a6 w6 _ g6 h6 (fun β7 a7 w7 h7 => ?_)).1
          have hZ2 : ∀ b, more Z W w2 b → b < W3.heap.size := fun b hb => by
            rcases hb with q | q
            · have := hZ b q; have := h2.size; simp at this; omega
            · omega
          have h8 := h7.anew hZ2 it_ks p5 (W' := w7) (fun b _ => rfl) (Nat.le_refl _)
          rw [p4, ← hnx] at h8
          refine ih (pre ++ [x]) r1 (pk ++ [x]) _ w7 a7 β7 (by simp) hr1 (by simp [← hp]) (fun b hb => ?_) ?_ h8
          · rcases hb with q | q
            · have := hZ2 b q; have := h7.size; simp at this; omega
            · exact q.2
          · rw [List.length_append]
            exact hg _ _ _ _ hJ3 h7.away
end

/-- 106 keeps an iterator's promise. -/
theorem it_iter {l r : List T_api_Hold} {acc cur now : Int} (hlen : (l.length : Int) < 4611686018427387904) (hr : itO acc cur now l = some r) :
    IterC Try.prog 106 [.ipv (.agg [.slice (l.map T_api_Hold.pv)]) 0, .ipv (.agg [.int .i64 acc]) 0, .ipv (.agg [.int .i64 cur]) 0, .ipv (.agg [.int .i32 now]) 0] (r.map T_api_Hold.pv) := by
  have hag := it_ag
  simp only [agreeF, Bool.and_eq_true, decide_eq_true_eq, Bool.not_eq_true'] at hag
  obtain ⟨⟨⟨⟨h1, h2⟩, h5⟩, h3⟩, h4⟩ := hag
  obtain ⟨c, hc⟩ : ∃ c, Try.f106.body = some c := ⟨_, rfl⟩
  rw [hc] at h4
  refine ⟨fun args w => ?_, ?_⟩
  · simp only [callFunc, Sem.run_bind, run_program, Result.andThen_ok, Try.func106, hc, h2, Option.isNone, Bool.false_eq_true, if_false, Sem.run_pure]
  · intro L lb w Z0 J hZ hcl hlb hg hy hJ
    have harr : (#[Value.func (.yield L) #[] #[]] ++ lb.toArray) = (Value.func (.yield L) #[] #[] :: lb).toArray := by apply Array.ext'; simp
    rw [harr]
    refine (callsIn_wide (n := 0)).2 (calls_of_wp Try.func106 hc (wpIn_wide (n := 0).1 ?_))
    show Code.wpIn (fr none) 0 Try.prog _ _ _ _
    have h0 := enter_rr (w := w) (vs := Value.func (.yield L) #[] #[] :: lb) (γ := fun _ => ⟨none, 0⟩) (ok := Z0) (args := [.pv (.yld L), .ipv (.agg [.slice (l.map T_api_Hold.pv)]) 0, .ipv (.agg [.int .i64 acc]) 0, .ipv (.agg [.int .i64 cur]) 0, .ipv (.agg [.int .i32 now]) 0]) (ext := []) (nt := Try.f106.ntmps)
      (fun b hb => ⟨hZ b hb, fun i hi => absurd hi (by simp)⟩) (fun i j b hi => absurd hi (by simp)) (fun i o ho => by simp at ho) (by simp only [List.length_cons, ← hcl]) (fun j x v hx hv => ?_) (show 5 ≤ Try.f106.ntmps by decide)
    · obtain ⟨c1, c2, rfl, g1, g2⟩ := ag_seq h4
      obtain ⟨c3, rfl, g3⟩ := ag_block g2
      obtain ⟨c4, rfl, g4⟩ := ag_loop g3
      obtain ⟨σ1, q1, q2, q3⟩ := it_start (L := L) (l := l) (acc := acc) (cur := cur) (now := now)
      refine wpIn_seq ((ev_sound (C := ⟨w, [], fun _ => ⟨none, 0⟩, Try.f106.ntmps, Z0, []⟩) hm (.ops q1) c1 _ _ w _ g1 h0 (fun β1 a1 w1 h1 => ?_)).1)
      refine wpIn_block (wp_lp ?_)
      have h2 := h1.anew hZ it_ks q3 (W' := w1) (fun b _ => rfl) (Nat.le_refl _)
      rw [q2] at h2
      refine it_loop (by decide) hlen hg hy g4 (fun C β σ a w Z hn he hd h hJ => ?_) l [] r [] _ w1 a1 β1 rfl hr rfl (fun b hb => ?_) (hg _ _ _ _ hJ h1.away) h2
      · obtain ⟨v, δ, hv, _⟩ := leave_sound (P := Try.prog) (cl := noCl) (fd := it) (fn := Try.f106) (r := ⟨.tup [], [], (List.range C.ext.length).map fun i => (σ.look (.ext i)).map (HObj.nm (toR it.out))⟩) h h3 (by decide) (by intro k hk; cases hk) rfl
        exact ⟨by rw [h.dfs, hd], v, hv, ⟨v, rfl⟩, Z, by simpa using hJ⟩
      · rcases hb with q | q
        · have := hZ b q; have := h1.size; simp at this; omega
        · exact q.2
    · cases j with
      | zero =>
        simp only [List.getElem?_cons_zero, Option.some.injEq] at hx hv
        subst hx; subst hv
        exact .pv _ _ (.yld _)
      | succ j =>
        simp only [List.getElem?_cons_succ] at hx hv
        refine (hlb j x v hx hv).mono' (fun b _ off u hu => hu) (fun b hb => hb) (fun k o hk hl => by cases hl)
theorem hold_those_iter {l r : List T_api_Hold} {acc cur now : Int} (h : hold_those l acc cur now = some r) :
    IterC Try.prog 106 [.ipv (.agg [.slice (l.map T_api_Hold.pv)]) 0, .ipv (.agg [.int .i64 acc]) 0, .ipv (.agg [.int .i64 cur]) 0, .ipv (.agg [.int .i32 now]) 0] (r.map T_api_Hold.pv) := by
  unfold hold_those at h
  split at h
  · exact it_iter ‹_› h
  · cases h
def sum_r0 : List GOp := [⟨(some 8), none, .box (.tmp 3)⟩, ⟨(some 9), none, .box (.tmp 4)⟩, ⟨(some 10), none, .mov (.cst (.int .i64 0))⟩, ⟨(some 11), none, .mov (.cst (.int .i64 0))⟩]
def sum_r1 : List GOp := [⟨(some 15), none, .mov (.tmp 0)⟩, ⟨(some 16), none, .call 0 0 (.cst (.fn 36)) [(.tmp 15)] [] []⟩, ⟨(some 12), none, .mov (.tmp 16)⟩]
def sum_r2 : List GOp := [⟨(some 17), none, .mov (.tmp 12)⟩, ⟨(some 18), none, .bin false .neq (.tmp 17) (.cst (.int .i64 0))⟩]
def sum_r3 : List GOp := [⟨(some 19), none, .mov (.tmp 12)⟩, ⟨(some 10), none, .mov (.cst (.int .i64 0))⟩, ⟨(some 11), none, .mov (.tmp 19)⟩]
def sum_r4 : List GOp := [⟨(some 13), none, .alloc [.pv (.int .i64 0)]⟩, ⟨none, none, .store 1 (.tmp 13) (.cst (.int .i64 0))⟩]
def sum_r5 : List GOp := [⟨(some 20), none, .mov (.tmp 0)⟩, ⟨(some 21), none, .mov (.tmp 1)⟩, ⟨(some 22), none, .mov (.tmp 2)⟩, ⟨(some 23), none, .load false 1 (.tmp 8)⟩, ⟨(some 24), none, .call 1 0 (.cst (.fn 76)) [(.tmp 20), (.tmp 21), (.tmp 22), (.tmp 23)] [] []⟩]
def sum_r6 : List GOp := [⟨(some 14), none, .alloc [.pv (.int .i64 0), .pv (.int .i64 0), .pv (.int .i64 0), .pv (.int .i64 0), .pv (.int .i64 0), .pv (.int .i32 0), .pv (.int .i32 0), .pv (.int .i64 0), .pv (.bool false)]⟩, ⟨none, none, .store 9 (.tmp 14) (.tmp 25)⟩]
def sum_r7 : List GOp := [⟨(some 26), none, .fld 4 (.tmp 14)⟩, ⟨(some 27), none, .load false 1 (.tmp 26)⟩, ⟨(some 28), none, .load false 1 (.tmp 9)⟩, ⟨(some 29), none, .bin false .geq (.tmp 27) (.tmp 28)⟩]
def sum_r8 : List GOp := [⟨(some 30), none, .load false 1 (.tmp 13)⟩, ⟨(some 31), none, .load true 9 (.tmp 14)⟩, ⟨(some 32), none, .load false 1 (.tmp 8)⟩, ⟨(some 33), none, .call 0 0 (.cst (.fn 42)) [(.tmp 31), (.tmp 32)] [] []⟩, ⟨(some 34), none, .bin false .add (.tmp 30) (.tmp 33)⟩, ⟨none, none, .store 1 (.tmp 13) (.tmp 34)⟩]
def sum_r9 : List GOp := [⟨(some 35), none, .load false 1 (.tmp 13)⟩, ⟨(some 10), none, .mov (.tmp 35)⟩, ⟨(some 11), none, .mov (.cst (.int .i64 0))⟩]
def sum_b : AC := .block 1 (.seq (.ops sum_r7) (.cond (.tmp 29) (.draw [] sum_r8) .skip))
def sum_x : AX := .seq (.ev (.ops sum_r0)) (.seq (.seq (.ev (.ops sum_r1)) (.ev (.seq (.ops sum_r2) (.cond (.tmp 18) (.seq (.ops sum_r3) .ret) .skip)))) (.seq (.ev (.ops sum_r4)) (.seq (.seq (.ev (.ops sum_r5))
  (.block (.keep [] [(8, false), (9, false), (13, false), (24, false)] [(.loc 8 0, false), (.loc 9 0, false), (.loc 13 0, false)] [] [] (.range (.tmp 24) 25 (.ops sum_r6) sum_b)))) (.ev (.seq (.ops sum_r9) .ret)))))
theorem sum_ag : agreeFX Try.prog Try.f37 5 [.tmp 10, .tmp 11] [] sum_x = true := by kernel_rfl

/-- Ahead of a round. -/
def sum_T (l : List T_api_Hold) (acc cur now rank n : Int) : St := ⟨[(8, .ptr (.loc 8 0) 0), (9, .ptr (.loc 9 0) 0), (13, .ptr (.loc 13 0) 0), (24, .fn 106 [.ipv (.agg [.slice (l.map T_api_Hold.pv)]) 0, .ipv (.agg [.int .i64 acc]) 0, .ipv (.agg [.int .i64 cur]) 0, .ipv (.agg [.int .i32 now]) 0])],
  [(.loc 8 0, .box [.pv (.int .i32 now)]), (.loc 9 0, .box [.pv (.int .i64 rank)]), (.loc 13 0, .box [.pv (.int .i64 n)])]⟩

theorem sum_round {l : List T_api_Hold} {acc cur now rank n n' : Int} {x : T_api_Hold} (h : sumStep now rank n x = some n') : RoundE Try.prog 25 (.ops sum_r6) sum_b (T_api_Hold.pv x) (sum_T l acc cur now rank n) (sum_T l acc cur now rank n') := by
  unfold sumStep at h
  cases hc : decide (x.f_Rank ≥ rank) with
  | false =>
    rw [hc] at h
    simp only [Bool.false_eq_true, if_false, Option.some.injEq] at h
    subst h
    exact ⟨⟨[.loc 8 0, .loc 9 0, .loc 13 0], [8, 9, 13], [.box [.pv (.int .i32 now)], .box [.pv (.int .i64 rank)], .box [.pv (.int .i64 n)]], _, _, [], ⟨.tup [], [], [some (.box [.pv (.int .i32 now)]), some (.box [.pv (.int .i64 rank)]), some (.box [.pv (.int .i64 n)])]⟩, 200, 0, ⟨.tup [], []⟩, sum_T l acc cur now rank n, by kernel_rfl, by decide, .ops (RunR.all (by kernel_rfl)), .block (.seq (.ops (RunR.all (by kernel_rfl))) (.cond (t := false) (Eq.trans (b := .pv (.bool (decide (x.f_Rank ≥ rank)))) (by kernel_rfl) (by rw [hc])) (.skip _))), by decide, by simp, by kernel_rfl, by kernel_rfl, by kernel_rfl, by simp, by kernel_rfl⟩⟩
  | true =>
    rw [hc, if_pos rfl] at h
    simp only [Option.bind_eq_some_iff, Option.some.injEq] at h
    obtain ⟨r, hr, rfl⟩ := h
    exact ⟨⟨[.loc 8 0, .loc 9 0, .loc 13 0], [8, 9, 13], [.box [.pv (.int .i32 now)], .box [.pv (.int .i64 rank)], .box [.pv (.int .i64 n)]], _, _, [], ⟨.tup [], [], [some (.box [.pv (.int .i32 now)]), some (.box [.pv (.int .i64 rank)]), some (.box [.pv (.int .i64 (IntKind.wrap .i64 (n + r)))])]⟩, 200, 0, ⟨.tup [], []⟩, sum_T l acc cur now rank (IntKind.wrap .i64 (n + r)), by kernel_rfl, by decide, .ops (RunR.all (by kernel_rfl)), .block (.seq (.ops (RunR.all (by kernel_rfl))) (.cond (t := true) (Eq.trans (b := .pv (.bool (decide (x.f_Rank ≥ rank)))) (by kernel_rfl) (by rw [hc]))
      (.draw (tab_cons (on := true) (fun _ => hold_Rest_ok hr) tab_nil) (Run.stat 3 (by kernel_rfl) (Run.dyn (Step.call0 (g := 42) (caps := []) (v := .pv (.int .i64 r)) (by kernel_rfl) (by kernel_rfl) (by kernel_rfl) (tab_hit (by kernel_rfl)) (by kernel_rfl)) (Run.all (by kernel_rfl))))))), by decide, by simp, by kernel_rfl, by kernel_rfl, by kernel_rfl, by simp, by kernel_rfl⟩⟩

theorem hold_Sum_ok {l1 : List T_api_Hold} {acc2 cur3 now4 rank5 : Int} {r : Int × Int} (h : hold_Sum l1 acc2 cur3 now4 rank5 = some r) :
    Contract Try.prog 37 [.pv (.slice (List.map T_api_Hold.pv l1)), .pv (.int .i64 acc2), .pv (.int .i64 cur3), .pv (.int .i32 now4), .pv (.int .i64 rank5)] [] ⟨.tup [.pv (.int .i64 r.1), .pv (.int .i64 r.2)], [], []⟩ := by
  unfold hold_Sum at h
  obtain ⟨e, he, h⟩ := bindS h
  cases hc : (e != 0) with
  | true =>
    rw [hc, if_pos rfl] at h
    cases h
    refine contract_evx hm Try.func37 sum_ag (by kernel_rfl) (EvX.seq (.ev (.ops (RunR.all (by kernel_rfl)))) (.seq_out (.seq (.ev (.ops (RunR.stat 1 (by kernel_rfl) (RunR.cons (tab_cons (on := true) (fun _ => hold_Check_ok he) tab_nil) (Step.call0 (g := 36) (caps := []) (v := .pv (.int .i64 e)) (by kernel_rfl) (by kernel_rfl) (by kernel_rfl) (tab_hit (by kernel_rfl)) (by kernel_rfl)) (RunR.all (by kernel_rfl))))))
      (.ev (.seq (.ops (RunR.all (by kernel_rfl))) (.cond (t := true) (Eq.trans (b := .pv (.bool (e != 0))) (by kernel_rfl) (by rw [hc])) (.seq (.ops (RunR.all (by kernel_rfl))) (.ret _)))))) (by simp))) (.inr rfl) (by kernel_rfl)
  | false =>
    rw [hc] at h
    simp only [Bool.false_eq_true, if_false] at h
    obtain ⟨q, hq, h⟩ := bindS h
    obtain ⟨n, hn, h⟩ := bindS h
    cases h
    refine contract_evx hm Try.func37 sum_ag (by kernel_rfl) (EvX.seq (.ev (.ops (RunR.all (by kernel_rfl)))) (.seq (.seq (.ev (.ops (RunR.stat 1 (by kernel_rfl) (RunR.cons (tab_cons (on := true) (fun _ => hold_Check_ok he) tab_nil) (Step.call0 (g := 36) (caps := []) (v := .pv (.int .i64 e)) (by kernel_rfl) (by kernel_rfl) (by kernel_rfl) (tab_hit (by kernel_rfl)) (by kernel_rfl)) (RunR.all (by kernel_rfl))))))
      (.ev (.seq (.ops (RunR.all (by kernel_rfl))) (.cond (t := false) (Eq.trans (b := .pv (.bool (e != 0))) (by kernel_rfl) (by rw [hc])) (.skip _))))) (.seq (.ev (.ops (RunR.all (by kernel_rfl)))) (.seqM (.seq (.ev (.ops (RunR.stat 4 (by kernel_rfl) (RunR.cons (tab_cons (on := true) (fun _ => those_bare (l := List.map T_api_Hold.pv l1) (acc := acc2) (cur := cur3) (now := now4)) tab_nil) (Step.callS (g := 76) (ins := []) (caps := []) (v := .fn 106 [.ipv (.agg [.slice (l1.map T_api_Hold.pv)]) 0, .ipv (.agg [.int .i64 acc2]) 0, .ipv (.agg [.int .i64 cur3]) 0, .ipv (.agg [.int .i32 now4]) 0]) (by kernel_rfl) (by kernel_rfl) (by kernel_rfl) (tab_hit (by kernel_rfl)) (by kernel_rfl)) (.nil _)))))
        (.block (.keepE (σ1 := sum_T l1 acc2 cur3 now4 rank5 0) (by kernel_rfl) (?_ : EvX _ _ _ _ .norm (sum_T l1 acc2 cur3 now4 rank5 n) true)) (by simp))) (.seq (.ops (RunR.all (by kernel_rfl))) (.ret _)) (by kernel_rfl))))) (.inr rfl) (by kernel_rfl)
    have := EvX.rangeO (P := Try.prog) (ne := 0) (g := .tmp 24) (p := 25) (a := .ops sum_r6) (b := sum_b) (enc := T_api_Hold.pv) (l := q) (fun _ n => sum_T l1 acc2 cur3 now4 rank5 n) hn rfl (by intro x hx; simp only [List.mem_cons, List.not_mem_nil, or_false] at hx; rcases hx with rfl | rfl | rfl | rfl <;> rfl) (fun x => by kernel_rfl) (hold_those_iter hq) (fun i s x s1 hs => sum_round hs) (fun i s => by kernel_rfl)
    exact this
def apq_r0 : List GOp := [⟨(some 2), none, .box (.tmp 0)⟩, ⟨(some 4), none, .mov .nils⟩]
def apq_r1 : List GOp := [⟨(some 6), none, .mov (.tmp 1)⟩]
def apq_r2 : List GOp := [⟨(some 5), none, .alloc [.pv (.int .i64 0), .pv (.int .i64 0), .pv (.int .i64 0), .pv (.int .i64 0), .pv (.int .i64 0), .pv (.int .i32 0), .pv (.int .i32 0), .pv (.int .i64 0), .pv (.bool false)]⟩, ⟨none, none, .store 9 (.tmp 5) (.tmp 7)⟩]
def apq_r3 : List GOp := [⟨(some 8), none, .load false 1 (.tmp 2)⟩, ⟨(some 9), none, .load true 9 (.tmp 5)⟩, ⟨(some 10), none, .lit false 9 [(.tmp 9)]⟩, ⟨(some 11), none, .append 11 9 64 (.tmp 8) (.tmp 10)⟩, ⟨none, none, .store 1 (.tmp 2) (.tmp 11)⟩]
def apq_r4 : List GOp := [⟨(some 12), none, .load false 1 (.tmp 2)⟩, ⟨(some 4), none, .mov (.tmp 12)⟩]
def apq_x : AX := .seq (.ev (.ops apq_r0)) (.seq (.seq (.ev (.ops apq_r1)) (.block (.keep [] [(2, false), (6, false)] [] [] [.cell (.loc 2 0) 0 (.loc 100 0) 9] (.range (.tmp 6) 7 (.ops apq_r2) (.block 1 (.ops apq_r3)))))) (.ev (.seq (.ops apq_r4) .ret)))
def apq_d (b : Bool) : Nat := bif b then 100 else 101
theorem apq_ag (b : Bool) : agreeFX Try.prog Try.f107 2 [.tmp 4] [.loc (apq_d b) 0] apq_x = true := by cases b <;> kernel_rfl
def apq_caps (l : List T_api_Hold) (acc cur now : Int) : List SV := [.ipv (.agg [.slice (l.map T_api_Hold.pv)]) 0, .ipv (.agg [.int .i64 acc]) 0, .ipv (.agg [.int .i64 cur]) 0, .ipv (.agg [.int .i32 now]) 0]
/-- Ahead of a round. -/
def apq_T (l : List T_api_Hold) (acc cur now : Int) (b : Bool) (s : List T_api_Hold) : St := ⟨[(2, .ptr (.loc 2 0) 0), (6, .fn 106 (apq_caps l acc cur now))], [(.loc (apq_d b) 0, .row 9 (s.map T_api_Hold.pv)), (.loc 2 0, .box [.own (.loc (apq_d b) 0)])]⟩
theorem apq_round {l : List T_api_Hold} {acc cur now : Int} {b : Bool} {s s1 : List T_api_Hold} {x : T_api_Hold} (h : apO 64 s [x] = some s1) : RoundE Try.prog 7 (.ops apq_r2) (.block 1 (.ops apq_r3)) (T_api_Hold.pv x) (apq_T l acc cur now b s) (apq_T l acc cur now (!b) s1) := by
  cases b with
  | true =>
    exact ⟨⟨[.loc 2 0, .loc 100 0], [2], [.box [.own (.ext 1)], .row 9 (s.map T_api_Hold.pv)], _, _, [.loc 11 0], ⟨.tup [], [some (.row 9 (s1.map T_api_Hold.pv))], [some (.box [.own (.res 0)]), none]⟩, 101, 1, ⟨.tup [], [(.loc 101 0, .row 9 (s1.map T_api_Hold.pv))]⟩, ⟨[(2, .ptr (.loc 2 0) 0), (6, .fn 106 (apq_caps l acc cur now))], [(.loc 2 0, .box [.own (.loc 101 0)])]⟩, by kernel_rfl, by decide, .ops (RunR.all (by kernel_rfl)), .block (.ops (RunR.stat 3 (by kernel_rfl) (RunR.dyn (Step.appendOwnT (k := .ext 1) (f := T_api_Hold.pv) (l := s) (m := [x]) (by kernel_rfl) (by kernel_rfl) (by kernel_rfl) h (fun _ => rfl) (by kernel_rfl)) (RunR.all (by kernel_rfl))))), by decide, by simp, by kernel_rfl, by kernel_rfl, by kernel_rfl, (fun j hj => by cases j with | zero => rfl | succ j => omega), by kernel_rfl⟩⟩
  | false =>
    exact ⟨⟨[.loc 2 0, .loc 101 0], [2], [.box [.own (.ext 1)], .row 9 (s.map T_api_Hold.pv)], _, _, [.loc 11 0], ⟨.tup [], [some (.row 9 (s1.map T_api_Hold.pv))], [some (.box [.own (.res 0)]), none]⟩, 100, 1, ⟨.tup [], [(.loc 100 0, .row 9 (s1.map T_api_Hold.pv))]⟩, ⟨[(2, .ptr (.loc 2 0) 0), (6, .fn 106 (apq_caps l acc cur now))], [(.loc 2 0, .box [.own (.loc 100 0)])]⟩, by kernel_rfl, by decide, .ops (RunR.all (by kernel_rfl)), .block (.ops (RunR.stat 3 (by kernel_rfl) (RunR.dyn (Step.appendOwnT (k := .ext 1) (f := T_api_Hold.pv) (l := s) (m := [x]) (by kernel_rfl) (by kernel_rfl) (by kernel_rfl) h (fun _ => rfl) (by kernel_rfl)) (RunR.all (by kernel_rfl))))), by decide, by simp, by kernel_rfl, by kernel_rfl, by kernel_rfl, (fun j hj => by cases j with | zero => rfl | succ j => omega), by kernel_rfl⟩⟩
theorem apq_ok {l q r : List T_api_Hold} {acc cur now : Int} (hq : hold_those l acc cur now = some q) (hr : foldO (fun s x => apO 64 s [x]) [] q = some r) :
    Contract Try.prog 107 [.nils, .fn 106 (apq_caps l acc cur now)] [] ⟨.own (.res 0), [some (.row 9 (r.map T_api_Hold.pv))], []⟩ := by
  have hx := EvX.rangeO (P := Try.prog) (ne := 0) (g := .tmp 6) (p := 7) (a := .ops apq_r2) (b := .block 1 (.ops apq_r3)) (enc := T_api_Hold.pv) (l := q) (fun i s => apq_T l acc cur now (i % 2 == 0) s) hr rfl (by intro x hx; simp only [apq_caps, List.mem_cons, List.not_mem_nil, or_false] at hx; rcases hx with rfl | rfl | rfl | rfl <;> rfl) (fun x => by kernel_rfl) (hold_those_iter hq)
    (fun i s x s1 hs => by
      have e : ((i + 1) % 2 == 0) = !(i % 2 == 0) := by rcases Nat.mod_two_eq_zero_or_one i with h | h <;> simp [h, Nat.add_mod]
      rw [e]; exact apq_round hs) (fun i s => by cases (i % 2 == 0) <;> kernel_rfl)
  obtain ⟨b, hb⟩ : ∃ b, (q.length % 2 == 0) = b := ⟨_, rfl⟩
  rw [hb] at hx
  refine contract_evx hm Try.func107 (apq_ag b) (by kernel_rfl) (EvX.seq (.ev (.ops (RunR.all (by kernel_rfl)))) (.seqM (.seq (.ev (.ops (RunR.all (by kernel_rfl)))) (.block (.keepE (by kernel_rfl) hx) (by simp))) (.seq (.ops (RunR.all (by cases b <;> kernel_rfl))) (.ret _)) (by cases b <;> kernel_rfl))) (.inr rfl) (by cases b <;> kernel_rfl)
def col_r0 : List GOp := [⟨(some 2), none, .mov .nils⟩]
def col_r1 : List GOp := [⟨(some 3), none, .mov (.tmp 0)⟩, ⟨(some 4), none, .call 1 3 (.cst (.fn 107)) [.nils, (.tmp 3)] [] []⟩, ⟨(some 2), none, .mov (.tmp 4)⟩]
def col_b : AC := .seq (.ops col_r0) (.seq (.ops col_r1) .ret)
def col : Fd := ⟨1, [.tmp 2], [.loc 4 0], col_b⟩
theorem col_ag : agreeF Try.prog Try.f77 col = true := by kernel_rfl
theorem hold_collect_ok {l r : List T_api_Hold} {acc cur now : Int} (h : hold_collect l acc cur now = some r) :
    Contract Try.prog 77 [.fn 106 (apq_caps l acc cur now)] [] ⟨.own (.res 0), [some (.row 9 (r.map T_api_Hold.pv))], []⟩ := by
  unfold hold_collect at h
  obtain ⟨q, hq, h⟩ := bindS h
  refine contract_fin hm Try.func77 col_ag (by kernel_rfl) ?_
  refine W.seqOps (RunR.all (by kernel_rfl)) ?_
  refine W.seqOps (RunR.stat 1 (by kernel_rfl) (RunR.cons (tab_cons (on := true) (fun _ => apq_ok hq h) tab_nil) (Step.callN (g := 107) (caps := []) (v := .own (.loc 4 0)) (ins := [(.loc 4 0, .row 9 (r.map T_api_Hold.pv))]) rfl (by kernel_rfl) (by kernel_rfl) (by kernel_rfl) (tab_hit (by kernel_rfl)) (by kernel_rfl) rfl) (RunR.all (by kernel_rfl)))) ?_
  exact W.ret (fin_ret (by kernel_rfl))
def phold_Cover_1r0 : List GOp := [⟨(some 2), none, .box (.tmp 0)⟩, ⟨(some 3), none, .box (.tmp 1)⟩, ⟨(some 4), none, .mov (.cst (.int .i64 0))⟩]
def phold_Cover_1r1 : List GOp := [⟨(some 5), none, .fld 4 (.tmp 3)⟩, ⟨(some 6), none, .load false 1 (.tmp 5)⟩, ⟨(some 7), none, .fld 4 (.tmp 2)⟩, ⟨(some 8), none, .load false 1 (.tmp 7)⟩, ⟨(some 9), none, .call 0 0 (.cst (.fn 80)) [(.tmp 6), (.tmp 8)] [] []⟩, ⟨(some 4), none, .mov (.tmp 9)⟩]
def phold_Cover_1b : AC := (.seq (.ops phold_Cover_1r0) (.seq (.ops phold_Cover_1r1) (.keep [] [(4, false)] [] [.loc 2 0, .loc 3 0] [] .ret)))
def phold_Cover_1 : Fd := ⟨2, [.tmp 4], [], phold_Cover_1b⟩
theorem phold_Cover_1_ag : agreeF Try.prog Try.f79 phold_Cover_1 = true := by kernel_rfl
theorem hold_Cover_1_ok {a1 : T_api_Hold} {b2 : T_api_Hold} {r : Int} (h : hold_Cover_1 a1 b2 = some r) : Contract Try.prog 79 [.pv (T_api_Hold.pv a1), .pv (T_api_Hold.pv b2)] [] ⟨.pv (.int .i64 r), [], []⟩ := by
  refine contract_fin hm Try.func79 phold_Cover_1_ag (by kernel_rfl) ?_
  unfold hold_Cover_1 at h
  refine W.seqOps (RunR.all (by kernel_rfl)) ?_
  replace h := bindS h
  obtain ⟨x3, hx3, h⟩ := h
  refine W.seqOps (RunR.stat 4 (by kernel_rfl) (RunR.cons (tab_cons (on := true) (fun _ => cmp_Compare_int_ok hx3) tab_nil) (Step.call0 (g := 80) (caps := []) (v := .pv (.int .i64 x3)) (by kernel_rfl) (by kernel_rfl) (by kernel_rfl) (tab_hit (by kernel_rfl)) (by kernel_rfl)) (RunR.all (by kernel_rfl)))) ?_
  refine W.keep rfl ?_
  cases h
  exact W.ret ((fin_ret (by kernel_rfl)))
def pslices_insertionSortCmpFunc_Holdr0 : List GOp := [⟨(some 10), none, .mov (.tmp 1)⟩, ⟨(some 11), none, .bin false .add (.tmp 10) (.cst (.int .i64 1))⟩, ⟨(some 8), none, .mov (.tmp 11)⟩]
def pslices_insertionSortCmpFunc_Holdr1 : List GOp := [⟨(some 12), none, .mov (.tmp 8)⟩, ⟨(some 13), none, .mov (.tmp 2)⟩, ⟨(some 14), none, .bin false .lss (.tmp 12) (.tmp 13)⟩]
def pslices_insertionSortCmpFunc_Holdr2 : List GOp := [⟨(some 17), none, .mov (.tmp 8)⟩, ⟨(some 9), none, .mov (.tmp 17)⟩]
def pslices_insertionSortCmpFunc_Holdr3 : List GOp := [⟨(some 18), none, .mov (.tmp 9)⟩, ⟨(some 19), none, .mov (.tmp 1)⟩, ⟨(some 20), none, .bin false .gtr (.tmp 18) (.tmp 19)⟩, ⟨(some 21), none, .mov (.tmp 20)⟩, ⟨(some 22), (some (21, true)), .mov (.tmp 3)⟩, ⟨(some 23), (some (21, true)), .mov (.tmp 0)⟩, ⟨(some 24), (some (21, true)), .mov (.tmp 9)⟩, ⟨(some 25), (some (21, true)), .idx 9 (.tmp 23) (.tmp 24)⟩, ⟨(some 26), (some (21, true)), .load true 9 (.tmp 25)⟩, ⟨(some 27), (some (21, true)), .mov (.tmp 0)⟩, ⟨(some 28), (some (21, true)), .mov (.tmp 9)⟩, ⟨(some 29), (some (21, true)), .bin false .sub (.tmp 28) (.cst (.int .i64 1))⟩, ⟨(some 30), (some (21, true)), .idx 9 (.tmp 27) (.tmp 29)⟩, ⟨(some 31), (some (21, true)), .load true 9 (.tmp 30)⟩, ⟨(some 32), (some (21, true)), .call 0 0 (.tmp 22) [(.tmp 26), (.tmp 31)] [] []⟩, ⟨(some 33), (some (21, true)), .bin false .lss (.tmp 32) (.cst (.int .i64 0))⟩, ⟨(some 34), none, .pick (.tmp 21) (.tmp 33) (.cst (.bool false))⟩]
def pslices_insertionSortCmpFunc_Holdr4 : List GOp := [⟨(some 37), none, .mov (.tmp 0)⟩, ⟨(some 38), none, .mov (.tmp 9)⟩, ⟨(some 39), none, .mov (.tmp 0)⟩, ⟨(some 40), none, .mov (.tmp 9)⟩, ⟨(some 41), none, .bin false .sub (.tmp 40) (.cst (.int .i64 1))⟩, ⟨(some 42), none, .mov (.tmp 0)⟩, ⟨(some 43), none, .mov (.tmp 9)⟩, ⟨(some 44), none, .bin false .sub (.tmp 43) (.cst (.int .i64 1))⟩, ⟨(some 45), none, .idx 9 (.tmp 42) (.tmp 44)⟩, ⟨(some 46), none, .load true 9 (.tmp 45)⟩, ⟨(some 47), none, .mov (.tmp 0)⟩, ⟨(some 48), none, .mov (.tmp 9)⟩, ⟨(some 49), none, .idx 9 (.tmp 47) (.tmp 48)⟩, ⟨(some 50), none, .load true 9 (.tmp 49)⟩, ⟨(some 51), none, .idx 9 (.tmp 37) (.tmp 38)⟩, ⟨none, none, .store 9 (.tmp 51) (.tmp 46)⟩, ⟨(some 52), none, .idx 9 (.tmp 39) (.tmp 41)⟩, ⟨none, none, .store 9 (.tmp 52) (.tmp 50)⟩]
def pslices_insertionSortCmpFunc_Holdr5 : List GOp := [⟨(some 35), none, .mov (.tmp 9)⟩, ⟨(some 36), none, .bin false .sub (.tmp 35) (.cst (.int .i64 1))⟩, ⟨(some 9), none, .mov (.tmp 36)⟩]
def pslices_insertionSortCmpFunc_Holdl6 : AC := (.keep [] [(0, false), (1, false), (2, false), (3, false), (8, false), (9, false)] [(.ext 0, false)] [] [] (.seq (.seq (.draw [] pslices_insertionSortCmpFunc_Holdr3) (.cond (.tmp 34) .skip (.exit 2))) (.seq (.pass 3 (.draw [] pslices_insertionSortCmpFunc_Holdr4)) (.ops pslices_insertionSortCmpFunc_Holdr5))))
def pslices_insertionSortCmpFunc_Holdr7 : List GOp := [⟨(some 15), none, .mov (.tmp 8)⟩, ⟨(some 16), none, .bin false .add (.tmp 15) (.cst (.int .i64 1))⟩, ⟨(some 8), none, .mov (.tmp 16)⟩]
def pslices_insertionSortCmpFunc_Holdl8 : AC := (.keep [] [(0, false), (1, false), (2, false), (3, false), (8, false)] [(.ext 0, false)] [] [] (.seq (.seq (.ops pslices_insertionSortCmpFunc_Holdr1) (.cond (.tmp 14) .skip (.keep [] [] [(.ext 0, false)] [] [] (.exit 0)))) (.seq (.pass 1 (.seq (.ops pslices_insertionSortCmpFunc_Holdr2) (.block 2 (.loop [0, 1, 2, 3, 8, 9] [] pslices_insertionSortCmpFunc_Holdl6)))) (.keep [] [(0, false), (1, false), (2, false), (3, false), (8, false)] [(.ext 0, false)] [] [] (.ops pslices_insertionSortCmpFunc_Holdr7)))))
def pslices_insertionSortCmpFunc_Holdb : AC := (.seq (.ops pslices_insertionSortCmpFunc_Holdr0) (.block 0 (.loop [0, 1, 2, 3, 8] [] pslices_insertionSortCmpFunc_Holdl8)))
def pslices_insertionSortCmpFunc_Hold : Fd := ⟨4, [], [], pslices_insertionSortCmpFunc_Holdb⟩
theorem pslices_insertionSortCmpFunc_Hold_ag : agreeF Try.prog Try.f120 pslices_insertionSortCmpFunc_Hold = true := by kernel_rfl
theorem slices_insertionSortCmpFunc_Hold_ok {a1 : Int} {b2 : Int} {l3 : List T_api_Hold} {r : List T_api_Hold} (h : slices_insertionSortCmpFunc_Hold a1 b2 l3 = some r) : Contract Try.prog 120 [.own (.ext 0), .pv (.int .i64 a1), .pv (.int .i64 b2), .pv (.fn 79)] [.row 9 (List.map T_api_Hold.pv l3)] ⟨.tup [], [], [(some (.row 9 (List.map T_api_Hold.pv r)))]⟩ := by
  refine contract_fin hm Try.func120 pslices_insertionSortCmpFunc_Hold_ag (by kernel_rfl) ?_
  unfold slices_insertionSortCmpFunc_Hold at h
  refine W.seqOps (RunR.all (by kernel_rfl)) ?_
  replace h := bindS h
  obtain ⟨j4, hj4, h⟩ := h
  refine W.mono (Q := NormW (fun p σ => σ = ⟨[], [(.ext 0, .row 9 (List.map T_api_Hold.pv p))]⟩) j4) ?_ (fun ex σj4 hp => ?_)
  · refine W.blockLoop (fun q σ => ((σ.forget [0, 1, 2, 3, 8]).killAll []).tidy [] [(0, false), (1, false), (2, false), (3, false), (8, false)] [(.ext 0, false)] [] [] = ⟨[(0, .own (.ext 0)), (1, .pv (.int .i64 a1)), (2, .pv (.int .i64 b2)), (3, .pv (.fn 79)), (8, .pv (.int .i64 q.1))], [(.ext 0, .row 9 (List.map T_api_Hold.pv q.2))]⟩) hj4 ?_ ?_
    · show _ = _
      kernel_rfl
    · intro q σj4 oj4 hJj4 h
      obtain ⟨i5, row6⟩ := q
      refine W.keep hJj4 ?_
      refine W.assoc ?_
      refine W.seqOps (RunR.all (by kernel_rfl)) ?_
      refine W.seqCond (t := decide (i5 < b2)) (by kernel_rfl) h (fun hc h' => ?_) (fun hc h' => ?_)
      · replace h := h'
        refine W.seqSkip ?_
        refine W.seqPass ?_
        refine W.assoc ?_
        refine W.seqOps (RunR.all (by kernel_rfl)) ?_
        replace h := bindS h
        obtain ⟨j7, hj7, h⟩ := h
        refine W.join (j := j7) (fun p σ => σ.tidy [] [(0, false), (1, false), (2, false), (3, false), (8, false)] [(.ext 0, false)] [] [] = ⟨[(0, .own (.ext 0)), (1, .pv (.int .i64 a1)), (2, .pv (.int .i64 b2)), (3, .pv (.fn 79)), (8, .pv (.int .i64 i5))], [(.ext 0, .row 9 (List.map T_api_Hold.pv p))]⟩) ?_ (fun σj7 hsj7 => ?_)
        · refine W.blockLoop (fun q σ => ((σ.forget [0, 1, 2, 3, 8, 9]).killAll []).tidy [] [(0, false), (1, false), (2, false), (3, false), (8, false), (9, false)] [(.ext 0, false)] [] [] = ⟨[(0, .own (.ext 0)), (1, .pv (.int .i64 a1)), (2, .pv (.int .i64 b2)), (3, .pv (.fn 79)), (8, .pv (.int .i64 i5)), (9, .pv (.int .i64 q.1))], [(.ext 0, .row 9 (List.map T_api_Hold.pv q.2))]⟩) hj7 ?_ ?_
          · show _ = _
            kernel_rfl
          · intro q σj7 oj7 hJj7 h
            obtain ⟨j8, row9⟩ := q
            refine W.keep hJj7 ?_
            refine W.assoc ?_
            replace h := bindS h
            obtain ⟨c10, hc10, h⟩ := h
            replace h := bindS h
            obtain ⟨x11, hx11, h⟩ := h
            replace h := bindS h
            obtain ⟨x12, hx12, h⟩ := h
            replace h := bindS h
            obtain ⟨x13, hx13, h⟩ := h
            refine W.seqDraw (tab_cons (on := c10) (fun hg => hold_Cover_1_ok (gdO_at hg hx13)) tab_nil) (Run.stat 3 (by kernel_rfl) (Run.dyn (Step.name (f := eBool) (e := decide (j8 > a1)) (c := c10) (by kernel_rfl) hc10) (Run.puts 3 [(24, (bif c10 then (.pv (.int .i64 j8)) else (.tup []))), (23, (bif c10 then (.own (.ext 0)) else (.tup []))), (22, (bif c10 then (.pv (.fn 79)) else (.tup [])))] (by cases c10 <;> kernel_rfl) (Run.dyn (Step.gdG c10 (by kernel_rfl) (by
                  cases c10
                  · exact .inl ⟨by kernel_rfl, by kernel_rfl⟩
                  · exact .inr ⟨by kernel_rfl, by kernel_rfl, Step.idxOwnT (k := .ext 0) (f := T_api_Hold.pv) (l := row9) (n := j8) (e := x11) (kd := .i64) (by kernel_rfl) (by kernel_rfl) (by kernel_rfl) hx11⟩)) (Run.dyn (Step.gdG c10 (by kernel_rfl) (by
                  cases c10
                  · exact .inl ⟨by kernel_rfl, by kernel_rfl⟩
                  · exact .inr ⟨by kernel_rfl, by kernel_rfl, Step.loadRowT (off := 0) (k := .ext 0) (f := T_api_Hold.pv) (l := row9) (i := j8) (e := x11) (sz := 9) (v := .pv (T_api_Hold.pv x11)) (by kernel_rfl) (by kernel_rfl) hx11 (by kernel_rfl) (by kernel_rfl)⟩)) (Run.puts 3 [(29, (bif c10 then (.pv (.int .i64 (IntKind.wrap .i64 (j8 - 1)))) else (.tup []))), (28, (bif c10 then (.pv (.int .i64 j8)) else (.tup []))), (27, (bif c10 then (.own (.ext 0)) else (.tup [])))] (by cases c10 <;> kernel_rfl) (Run.dyn (Step.gdG c10 (by kernel_rfl) (by
                  cases c10
                  · exact .inl ⟨by kernel_rfl, by kernel_rfl⟩
                  · exact .inr ⟨by kernel_rfl, by kernel_rfl, Step.idxOwnT (k := .ext 0) (f := T_api_Hold.pv) (l := row9) (n := IntKind.wrap .i64 (j8 - 1)) (e := x12) (kd := .i64) (by kernel_rfl) (by kernel_rfl) (by kernel_rfl) hx12⟩)) (Run.dyn (Step.gdG c10 (by kernel_rfl) (by
                  cases c10
                  · exact .inl ⟨by kernel_rfl, by kernel_rfl⟩
                  · exact .inr ⟨by kernel_rfl, by kernel_rfl, Step.loadRowT (off := 0) (k := .ext 0) (f := T_api_Hold.pv) (l := row9) (i := IntKind.wrap .i64 (j8 - 1)) (e := x12) (sz := 9) (v := .pv (T_api_Hold.pv x12)) (by kernel_rfl) (by kernel_rfl) hx12 (by kernel_rfl) (by kernel_rfl)⟩)) (Run.dyn (Step.gdG c10 (by kernel_rfl) (by
                  cases c10
                  · exact .inl ⟨by kernel_rfl, by kernel_rfl⟩
                  · exact .inr ⟨by kernel_rfl, by kernel_rfl, Step.call0 (g := 79) (caps := []) (v := .pv (.int .i64 x13)) (by kernel_rfl) (by kernel_rfl) (by kernel_rfl) (tab_hit (by kernel_rfl)) (by kernel_rfl)⟩)) (Run.puts 2 [(34, .pv (.bool (c10 && (decide (x13 < 0))))), (33, (bif c10 then (.pv (.bool (decide (x13 < 0)))) else (.tup [])))] (by cases c10 <;> kernel_rfl) ((Run.nil)))))))))))) ?_
            refine W.seqCond (t := (c10 && (decide (x13 < 0)))) (by kernel_rfl) h (fun hc h' => ?_) (fun hc h' => ?_)
            · replace h := h'
              refine W.seqSkip ?_
              refine W.seqPass ?_
              replace h := bindS h
              obtain ⟨x14, hx14, h⟩ := h
              replace h := bindS h
              obtain ⟨x15, hx15, h⟩ := h
              replace h := bindS h
              obtain ⟨x16, hx16, h⟩ := h
              replace h := bindS h
              obtain ⟨x17, hx17, h⟩ := h
              refine W.seqDraw tab_nil (Run.stat 8 (by kernel_rfl) (Run.dyn (Step.idxOwnT (k := .ext 0) (f := T_api_Hold.pv) (l := row9) (n := IntKind.wrap .i64 (j8 - 1)) (e := x14) (kd := .i64) (by kernel_rfl) (by kernel_rfl) (by kernel_rfl) hx14) (Run.dyn (Step.loadRowT (off := 0) (k := .ext 0) (f := T_api_Hold.pv) (l := row9) (i := IntKind.wrap .i64 (j8 - 1)) (e := x14) (sz := 9) (v := .pv (T_api_Hold.pv x14)) (by kernel_rfl) (by kernel_rfl) hx14 (by kernel_rfl) (by kernel_rfl)) (Run.stat 2 (by kernel_rfl) (Run.dyn (Step.idxOwnT (k := .ext 0) (f := T_api_Hold.pv) (l := row9) (n := j8) (e := x15) (kd := .i64) (by kernel_rfl) (by kernel_rfl) (by kernel_rfl) hx15) (Run.dyn (Step.loadRowT (off := 0) (k := .ext 0) (f := T_api_Hold.pv) (l := row9) (i := j8) (e := x15) (sz := 9) (v := .pv (T_api_Hold.pv x15)) (by kernel_rfl) (by kernel_rfl) hx15 (by kernel_rfl) (by kernel_rfl)) (Run.dyn (Step.idxOwnT (k := .ext 0) (f := T_api_Hold.pv) (l := row9) (n := j8) (e := x16) (kd := .i64) (by kernel_rfl) (by kernel_rfl) (by kernel_rfl) hx16) (Run.dyn (Step.storeRowT (sz := 9) (off := 0) (k := .ext 0) (f := T_api_Hold.pv) (l := row9) (i := j8) (e := x16) (e' := x14) (v := (T_api_Hold.pv x14)) (by kernel_rfl) (by kernel_rfl) (by kernel_rfl) hx16 (by kernel_rfl) (by kernel_rfl)) (Run.dyn (Step.idxOwnT (k := .ext 0) (f := T_api_Hold.pv) (l := (List.set row9 (Int.toNat j8) x14)) (n := IntKind.wrap .i64 (j8 - 1)) (e := x17) (kd := .i64) (by kernel_rfl) (by kernel_rfl) (by kernel_rfl) hx17) (Run.dyn (Step.storeRowT (sz := 9) (off := 0) (k := .ext 0) (f := T_api_Hold.pv) (l := (List.set row9 (Int.toNat j8) x14)) (i := IntKind.wrap .i64 (j8 - 1)) (e := x17) (e' := x15) (v := (T_api_Hold.pv x15)) (by kernel_rfl) (by kernel_rfl) (by kernel_rfl) hx17 (by kernel_rfl) (by kernel_rfl)) ((Run.nil)))))))))))) ?_
              refine W.ops (RunR.all (by kernel_rfl)) ?_
              cases h
              exact (outw_in (by (show _ = _); kernel_rfl))
            · replace h := h'
              cases h
              exact W.seqExit ((outw_out exit_ne (bnorm_x (by (show _ = _); kernel_rfl))))
        · refine W.keep hsj7 ?_
          refine W.ops (RunR.all (by kernel_rfl)) ?_
          cases h
          exact (outw_in (by (show _ = _); kernel_rfl))
      · replace h := h'
        refine W.seqKeep rfl ?_
        cases h
        exact W.seqExit ((outw_out exit_ne (bnorm_x (by (show _ = _); kernel_rfl))))
  · obtain ⟨rfl, hs⟩ := hp
    subst hs
    cases h
    exact (fin_norm (by kernel_rfl))
def pslices_swapRangeCmpFunc_Holdr0 : List GOp := [⟨(some 10), none, .mov (.cst (.int .i64 0))⟩]
def pslices_swapRangeCmpFunc_Holdr1 : List GOp := [⟨(some 11), none, .mov (.tmp 10)⟩, ⟨(some 12), none, .mov (.tmp 3)⟩, ⟨(some 13), none, .bin false .lss (.tmp 11) (.tmp 12)⟩]
def pslices_swapRangeCmpFunc_Holdr2 : List GOp := [⟨(some 16), none, .mov (.tmp 0)⟩, ⟨(some 17), none, .mov (.tmp 1)⟩, ⟨(some 18), none, .mov (.tmp 10)⟩, ⟨(some 19), none, .bin false .add (.tmp 17) (.tmp 18)⟩, ⟨(some 20), none, .mov (.tmp 0)⟩, ⟨(some 21), none, .mov (.tmp 2)⟩, ⟨(some 22), none, .mov (.tmp 10)⟩, ⟨(some 23), none, .bin false .add (.tmp 21) (.tmp 22)⟩, ⟨(some 24), none, .mov (.tmp 0)⟩, ⟨(some 25), none, .mov (.tmp 2)⟩, ⟨(some 26), none, .mov (.tmp 10)⟩, ⟨(some 27), none, .bin false .add (.tmp 25) (.tmp 26)⟩, ⟨(some 28), none, .idx 9 (.tmp 24) (.tmp 27)⟩, ⟨(some 29), none, .load true 9 (.tmp 28)⟩, ⟨(some 30), none, .mov (.tmp 0)⟩, ⟨(some 31), none, .mov (.tmp 1)⟩, ⟨(some 32), none, .mov (.tmp 10)⟩, ⟨(some 33), none, .bin false .add (.tmp 31) (.tmp 32)⟩, ⟨(some 34), none, .idx 9 (.tmp 30) (.tmp 33)⟩, ⟨(some 35), none, .load true 9 (.tmp 34)⟩, ⟨(some 36), none, .idx 9 (.tmp 16) (.tmp 19)⟩, ⟨none, none, .store 9 (.tmp 36) (.tmp 29)⟩, ⟨(some 37), none, .idx 9 (.tmp 20) (.tmp 23)⟩, ⟨none, none, .store 9 (.tmp 37) (.tmp 35)⟩]
def pslices_swapRangeCmpFunc_Holdr3 : List GOp := [⟨(some 14), none, .mov (.tmp 10)⟩, ⟨(some 15), none, .bin false .add (.tmp 14) (.cst (.int .i64 1))⟩, ⟨(some 10), none, .mov (.tmp 15)⟩]
def pslices_swapRangeCmpFunc_Holdl4 : AC := (.keep [] [(0, false), (1, false), (2, false), (3, false), (10, false)] [(.ext 0, false)] [] [] (.seq (.seq (.ops pslices_swapRangeCmpFunc_Holdr1) (.cond (.tmp 13) .skip (.keep [] [] [(.ext 0, false)] [] [] (.exit 0)))) (.seq (.pass 1 (.draw [] pslices_swapRangeCmpFunc_Holdr2)) (.ops pslices_swapRangeCmpFunc_Holdr3))))
def pslices_swapRangeCmpFunc_Holdb : AC := (.seq (.ops pslices_swapRangeCmpFunc_Holdr0) (.block 0 (.loop [0, 1, 2, 3, 10] [] pslices_swapRangeCmpFunc_Holdl4)))
def pslices_swapRangeCmpFunc_Hold : Fd := ⟨5, [], [], pslices_swapRangeCmpFunc_Holdb⟩
theorem pslices_swapRangeCmpFunc_Hold_ag : agreeF Try.prog Try.f128 pslices_swapRangeCmpFunc_Hold = true := by kernel_rfl
theorem slices_swapRangeCmpFunc_Hold_ok {a1 : Int} {b2 : Int} {n3 : Int} {l4 : List T_api_Hold} {r : List T_api_Hold} (h : slices_swapRangeCmpFunc_Hold a1 b2 n3 l4 = some r) : Contract Try.prog 128 [.own (.ext 0), .pv (.int .i64 a1), .pv (.int .i64 b2), .pv (.int .i64 n3), .pv (.fn 79)] [.row 9 (List.map T_api_Hold.pv l4)] ⟨.tup [], [], [(some (.row 9 (List.map T_api_Hold.pv r)))]⟩ := by
  refine contract_fin hm Try.func128 pslices_swapRangeCmpFunc_Hold_ag (by kernel_rfl) ?_
  unfold slices_swapRangeCmpFunc_Hold at h
  refine W.seqOps (RunR.all (by kernel_rfl)) ?_
  replace h := bindS h
  obtain ⟨j5, hj5, h⟩ := h
  refine W.mono (Q := NormW (fun p σ => σ = ⟨[], [(.ext 0, .row 9 (List.map T_api_Hold.pv p))]⟩) j5) ?_ (fun ex σj5 hp => ?_)
  · refine W.blockLoop (fun q σ => ((σ.forget [0, 1, 2, 3, 10]).killAll []).tidy [] [(0, false), (1, false), (2, false), (3, false), (10, false)] [(.ext 0, false)] [] [] = ⟨[(0, .own (.ext 0)), (1, .pv (.int .i64 a1)), (2, .pv (.int .i64 b2)), (3, .pv (.int .i64 n3)), (10, .pv (.int .i64 q.1))], [(.ext 0, .row 9 (List.map T_api_Hold.pv q.2))]⟩) hj5 ?_ ?_
    · show _ = _
      kernel_rfl
    · intro q σj5 oj5 hJj5 h
      obtain ⟨i6, row7⟩ := q
      refine W.keep hJj5 ?_
      refine W.assoc ?_
      refine W.seqOps (RunR.all (by kernel_rfl)) ?_
      refine W.seqCond (t := decide (i6 < n3)) (by kernel_rfl) h (fun hc h' => ?_) (fun hc h' => ?_)
      · replace h := h'
        refine W.seqSkip ?_
        refine W.seqPass ?_
        replace h := bindS h
        obtain ⟨x8, hx8, h⟩ := h
        replace h := bindS h
        obtain ⟨x9, hx9, h⟩ := h
        replace h := bindS h
        obtain ⟨x10, hx10, h⟩ := h
        replace h := bindS h
        obtain ⟨x11, hx11, h⟩ := h
        refine W.seqDraw tab_nil (Run.stat 12 (by kernel_rfl) (Run.dyn (Step.idxOwnT (k := .ext 0) (f := T_api_Hold.pv) (l := row7) (n := IntKind.wrap .i64 (b2 + i6)) (e := x8) (kd := .i64) (by kernel_rfl) (by kernel_rfl) (by kernel_rfl) hx8) (Run.dyn (Step.loadRowT (off := 0) (k := .ext 0) (f := T_api_Hold.pv) (l := row7) (i := IntKind.wrap .i64 (b2 + i6)) (e := x8) (sz := 9) (v := .pv (T_api_Hold.pv x8)) (by kernel_rfl) (by kernel_rfl) hx8 (by kernel_rfl) (by kernel_rfl)) (Run.stat 4 (by kernel_rfl) (Run.dyn (Step.idxOwnT (k := .ext 0) (f := T_api_Hold.pv) (l := row7) (n := IntKind.wrap .i64 (a1 + i6)) (e := x9) (kd := .i64) (by kernel_rfl) (by kernel_rfl) (by kernel_rfl) hx9) (Run.dyn (Step.loadRowT (off := 0) (k := .ext 0) (f := T_api_Hold.pv) (l := row7) (i := IntKind.wrap .i64 (a1 + i6)) (e := x9) (sz := 9) (v := .pv (T_api_Hold.pv x9)) (by kernel_rfl) (by kernel_rfl) hx9 (by kernel_rfl) (by kernel_rfl)) (Run.dyn (Step.idxOwnT (k := .ext 0) (f := T_api_Hold.pv) (l := row7) (n := IntKind.wrap .i64 (a1 + i6)) (e := x10) (kd := .i64) (by kernel_rfl) (by kernel_rfl) (by kernel_rfl) hx10) (Run.dyn (Step.storeRowT (sz := 9) (off := 0) (k := .ext 0) (f := T_api_Hold.pv) (l := row7) (i := IntKind.wrap .i64 (a1 + i6)) (e := x10) (e' := x8) (v := (T_api_Hold.pv x8)) (by kernel_rfl) (by kernel_rfl) (by kernel_rfl) hx10 (by kernel_rfl) (by kernel_rfl)) (Run.dyn (Step.idxOwnT (k := .ext 0) (f := T_api_Hold.pv) (l := (List.set row7 (Int.toNat (IntKind.wrap .i64 (a1 + i6))) x8)) (n := IntKind.wrap .i64 (b2 + i6)) (e := x11) (kd := .i64) (by kernel_rfl) (by kernel_rfl) (by kernel_rfl) hx11) (Run.dyn (Step.storeRowT (sz := 9) (off := 0) (k := .ext 0) (f := T_api_Hold.pv) (l := (List.set row7 (Int.toNat (IntKind.wrap .i64 (a1 + i6))) x8)) (i := IntKind.wrap .i64 (b2 + i6)) (e := x11) (e' := x9) (v := (T_api_Hold.pv x9)) (by kernel_rfl) (by kernel_rfl) (by kernel_rfl) hx11 (by kernel_rfl) (by kernel_rfl)) ((Run.nil)))))))))))) ?_
        refine W.ops (RunR.all (by kernel_rfl)) ?_
        cases h
        exact (outw_in (by (show _ = _); kernel_rfl))
      · replace h := h'
        refine W.seqKeep rfl ?_
        cases h
        exact W.seqExit ((outw_out exit_ne (bnorm_x (by (show _ = _); kernel_rfl))))
  · obtain ⟨rfl, hs⟩ := hp
    subst hs
    cases h
    exact (fin_norm (by kernel_rfl))
def pslices_rotateCmpFunc_Holdr0 : List GOp := [⟨(some 12), none, .mov (.tmp 2)⟩, ⟨(some 13), none, .mov (.tmp 1)⟩, ⟨(some 14), none, .bin false .sub (.tmp 12) (.tmp 13)⟩, ⟨(some 10), none, .mov (.tmp 14)⟩]
def pslices_rotateCmpFunc_Holdr1 : List GOp := [⟨(some 15), none, .mov (.tmp 3)⟩, ⟨(some 16), none, .mov (.tmp 2)⟩, ⟨(some 17), none, .bin false .sub (.tmp 15) (.tmp 16)⟩, ⟨(some 11), none, .mov (.tmp 17)⟩]
def pslices_rotateCmpFunc_Holdr2 : List GOp := [⟨(some 18), none, .mov (.tmp 10)⟩, ⟨(some 19), none, .mov (.tmp 11)⟩, ⟨(some 20), none, .bin false .neq (.tmp 18) (.tmp 19)⟩]
def pslices_rotateCmpFunc_Holdr3 : List GOp := [⟨(some 21), none, .mov (.tmp 10)⟩, ⟨(some 22), none, .mov (.tmp 11)⟩, ⟨(some 23), none, .bin false .gtr (.tmp 21) (.tmp 22)⟩]
def pslices_rotateCmpFunc_Holdr4 : List GOp := [⟨(some 24), none, .mov (.tmp 0)⟩, ⟨(some 25), none, .mov (.tmp 2)⟩, ⟨(some 26), none, .mov (.tmp 10)⟩, ⟨(some 27), none, .bin false .sub (.tmp 25) (.tmp 26)⟩, ⟨(some 28), none, .mov (.tmp 2)⟩, ⟨(some 29), none, .mov (.tmp 11)⟩, ⟨(some 30), none, .mov (.tmp 4)⟩, ⟨(some 31), none, .call 0 2 (.cst (.fn 128)) [(.tmp 24), (.tmp 27), (.tmp 28), (.tmp 29), (.tmp 30)] [] [.ext 0]⟩]
def pslices_rotateCmpFunc_Holdr5 : List GOp := [⟨(some 32), none, .mov (.tmp 10)⟩, ⟨(some 33), none, .mov (.tmp 11)⟩, ⟨(some 34), none, .bin false .sub (.tmp 32) (.tmp 33)⟩, ⟨(some 10), none, .mov (.tmp 34)⟩]
def pslices_rotateCmpFunc_Holdr6 : List GOp := [⟨(some 35), none, .mov (.tmp 0)⟩, ⟨(some 36), none, .mov (.tmp 2)⟩, ⟨(some 37), none, .mov (.tmp 10)⟩, ⟨(some 38), none, .bin false .sub (.tmp 36) (.tmp 37)⟩, ⟨(some 39), none, .mov (.tmp 2)⟩, ⟨(some 40), none, .mov (.tmp 11)⟩, ⟨(some 41), none, .bin false .add (.tmp 39) (.tmp 40)⟩, ⟨(some 42), none, .mov (.tmp 10)⟩, ⟨(some 43), none, .bin false .sub (.tmp 41) (.tmp 42)⟩, ⟨(some 44), none, .mov (.tmp 10)⟩, ⟨(some 45), none, .mov (.tmp 4)⟩, ⟨(some 46), none, .call 0 2 (.cst (.fn 128)) [(.tmp 35), (.tmp 38), (.tmp 43), (.tmp 44), (.tmp 45)] [] [.ext 0]⟩]
def pslices_rotateCmpFunc_Holdr7 : List GOp := [⟨(some 47), none, .mov (.tmp 11)⟩, ⟨(some 48), none, .mov (.tmp 10)⟩, ⟨(some 49), none, .bin false .sub (.tmp 47) (.tmp 48)⟩, ⟨(some 11), none, .mov (.tmp 49)⟩]
def pslices_rotateCmpFunc_Holdl8 : AC := (.keep [] [(0, false), (2, false), (4, false), (10, false), (11, false)] [(.ext 0, false)] [] [] (.seq (.seq (.ops pslices_rotateCmpFunc_Holdr2) (.cond (.tmp 20) .skip (.exit 0))) (.pass 1 (.seq (.ops pslices_rotateCmpFunc_Holdr3) (.cond (.tmp 23) (.seq (.ops pslices_rotateCmpFunc_Holdr4) (.ops pslices_rotateCmpFunc_Holdr5)) (.seq (.ops pslices_rotateCmpFunc_Holdr6) (.ops pslices_rotateCmpFunc_Holdr7)))))))
def pslices_rotateCmpFunc_Holdr9 : List GOp := [⟨(some 50), none, .mov (.tmp 0)⟩, ⟨(some 51), none, .mov (.tmp 2)⟩, ⟨(some 52), none, .mov (.tmp 10)⟩, ⟨(some 53), none, .bin false .sub (.tmp 51) (.tmp 52)⟩, ⟨(some 54), none, .mov (.tmp 2)⟩, ⟨(some 55), none, .mov (.tmp 10)⟩, ⟨(some 56), none, .mov (.tmp 4)⟩, ⟨(some 57), none, .call 0 2 (.cst (.fn 128)) [(.tmp 50), (.tmp 53), (.tmp 54), (.tmp 55), (.tmp 56)] [] [.ext 0]⟩]
def pslices_rotateCmpFunc_Holdb : AC := (.seq (.ops pslices_rotateCmpFunc_Holdr0) (.seq (.ops pslices_rotateCmpFunc_Holdr1) (.seq (.block 0 (.loop [0, 2, 4, 10, 11] [] pslices_rotateCmpFunc_Holdl8)) (.keep [] [(0, false), (2, false), (4, false), (10, false)] [(.ext 0, false)] [] [] (.ops pslices_rotateCmpFunc_Holdr9)))))
def pslices_rotateCmpFunc_Hold : Fd := ⟨5, [], [], pslices_rotateCmpFunc_Holdb⟩
theorem pslices_rotateCmpFunc_Hold_ag : agreeF Try.prog Try.f126 pslices_rotateCmpFunc_Hold = true := by kernel_rfl
theorem slices_rotateCmpFunc_Hold_ok {a1 : Int} {m2 : Int} {b3 : Int} {l4 : List T_api_Hold} {r : List T_api_Hold} (h : slices_rotateCmpFunc_Hold a1 m2 b3 l4 = some r) : Contract Try.prog 126 [.own (.ext 0), .pv (.int .i64 a1), .pv (.int .i64 m2), .pv (.int .i64 b3), .pv (.fn 79)] [.row 9 (List.map T_api_Hold.pv l4)] ⟨.tup [], [], [(some (.row 9 (List.map T_api_Hold.pv r)))]⟩ := by
  refine contract_fin hm Try.func126 pslices_rotateCmpFunc_Hold_ag (by kernel_rfl) ?_
  unfold slices_rotateCmpFunc_Hold at h
  refine W.seqOps (RunR.all (by kernel_rfl)) ?_
  refine W.seqOps (RunR.all (by kernel_rfl)) ?_
  replace h := bindS h
  obtain ⟨j5, hj5, h⟩ := h
  refine W.join (j := j5) (fun p σ => σ.tidy [] [(0, false), (2, false), (4, false), (10, false)] [(.ext 0, false)] [] [] = ⟨[(0, .own (.ext 0)), (2, .pv (.int .i64 m2)), (4, .pv (.fn 79)), (10, .pv (.int .i64 p.1))], [(.ext 0, .row 9 (List.map T_api_Hold.pv p.2))]⟩) ?_ (fun σj5 hsj5 => ?_)
  · refine W.blockLoop (fun q σ => ((σ.forget [0, 2, 4, 10, 11]).killAll []).tidy [] [(0, false), (2, false), (4, false), (10, false), (11, false)] [(.ext 0, false)] [] [] = ⟨[(0, .own (.ext 0)), (2, .pv (.int .i64 m2)), (4, .pv (.fn 79)), (10, .pv (.int .i64 q.1)), (11, .pv (.int .i64 q.2.1))], [(.ext 0, .row 9 (List.map T_api_Hold.pv q.2.2))]⟩) hj5 ?_ ?_
    · show _ = _
      kernel_rfl
    · intro q σj5 oj5 hJj5 h
      obtain ⟨i6, j7, row8⟩ := q
      refine W.keep hJj5 ?_
      refine W.assoc ?_
      refine W.seqOps (RunR.all (by kernel_rfl)) ?_
      refine W.seqCond (t := (i6 != j7)) (by kernel_rfl) h (fun hc h' => ?_) (fun hc h' => ?_)
      · replace h := h'
        refine W.seqSkip ?_
        refine W.pass ?_
        refine W.seqOps (RunR.all (by kernel_rfl)) ?_
        refine W.condI (t := decide (i6 > j7)) (by kernel_rfl) h (fun hc h' => ?_) (fun hc h' => ?_)
        · replace h := h'
          replace h := bindS h
          obtain ⟨x9, hx9, h⟩ := h
          refine W.seqOps (RunR.stat 7 (by kernel_rfl) (RunR.cons (tab_cons (on := true) (fun _ => slices_swapRangeCmpFunc_Hold_ok hx9) tab_nil) (Step.callG (g := 128) (caps := []) (v := .tup []) (ins := []) rfl (by kernel_rfl) (by kernel_rfl) (by kernel_rfl) (tab_hit (by kernel_rfl)) (by kernel_rfl) (by kernel_rfl)) ((.nil _)))) ?_
          refine W.ops (RunR.all (by kernel_rfl)) ?_
          cases h
          exact (outw_in (by (show _ = _); kernel_rfl))
        · replace h := h'
          replace h := bindS h
          obtain ⟨x10, hx10, h⟩ := h
          refine W.seqOps (RunR.stat 11 (by kernel_rfl) (RunR.cons (tab_cons (on := true) (fun _ => slices_swapRangeCmpFunc_Hold_ok hx10) tab_nil) (Step.callG (g := 128) (caps := []) (v := .tup []) (ins := []) rfl (by kernel_rfl) (by kernel_rfl) (by kernel_rfl) (tab_hit (by kernel_rfl)) (by kernel_rfl) (by kernel_rfl)) ((.nil _)))) ?_
          refine W.ops (RunR.all (by kernel_rfl)) ?_
          cases h
          exact (outw_in (by (show _ = _); kernel_rfl))
      · replace h := h'
        cases h
        exact W.seqExit ((outw_out exit_ne (bnorm_x (by (show _ = _); kernel_rfl))))
  · obtain ⟨i11, row12⟩ := j5
    refine W.keep hsj5 ?_
    replace h := bindS h
    obtain ⟨x13, hx13, h⟩ := h
    refine W.ops (RunR.stat 7 (by kernel_rfl) (RunR.cons (tab_cons (on := true) (fun _ => slices_swapRangeCmpFunc_Hold_ok hx13) tab_nil) (Step.callG (g := 128) (caps := []) (v := .tup []) (ins := []) rfl (by kernel_rfl) (by kernel_rfl) (by kernel_rfl) (tab_hit (by kernel_rfl)) (by kernel_rfl) (by kernel_rfl)) ((.nil _)))) ?_
    cases h
    exact (fin_norm (by kernel_rfl))
end Go.Av.G
