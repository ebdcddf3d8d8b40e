/- What functions of the program compute, in plain words, and that they do: printed by a program of ours. -/
import Derived.Test.YtkcilagjhieapaaUd0
set_option linter.unusedVariables false
set_option linter.unusedSimpArgs false
set_option maxRecDepth 100000
set_option maxHeartbeats 8000000
namespace Go.Av.G
open Go Go.Av Go.Proofs
def pcashbookref18_Rightr0 : List GOp := [⟨(some 1), none, .box (.tmp 0)⟩, ⟨(some 2), none, .mov (.cst (.bool false))⟩]
def pcashbookref18_Rightr1 : List GOp := [⟨(some 7), none, .fld 0 (.tmp 1)⟩, ⟨(some 8), none, .load false 1 (.tmp 7)⟩, ⟨(some 9), none, .len false (.tmp 8)⟩, ⟨(some 10), none, .mov (.cst (.int .i64 0))⟩]
def pcashbookref18_Rightr2 : List GOp := [⟨(some 11), none, .bin false .lss (.tmp 10) (.tmp 9)⟩]
def pcashbookref18_Rightr3 : List GOp := [⟨(some 12), none, .mov (.tmp 10)⟩, ⟨(some 13), none, .idx 3 (.tmp 8) (.tmp 10)⟩, ⟨(some 14), none, .load true 3 (.tmp 13)⟩, ⟨(some 4), none, .alloc [.pv (.int .i64 0), .pv (.str []), .pv (.int .i64 0)]⟩, ⟨(some 3), none, .mov (.tmp 12)⟩, ⟨none, none, .store 3 (.tmp 4) (.tmp 14)⟩]
def pcashbookref18_Rightr4 : List GOp := [⟨(some 15), none, .load true 3 (.tmp 4)⟩, ⟨(some 16), none, .call 0 0 (.cst (.fn 20)) [(.tmp 15)] [] []⟩, ⟨(some 17), none, .un .not (.tmp 16)⟩, ⟨(some 18), none, .mov (.tmp 17)⟩, ⟨(some 19), (some (18, false)), .mov (.tmp 3)⟩, ⟨(some 20), (some (18, false)), .bin false .gtr (.tmp 19) (.cst (.int .i64 0))⟩, ⟨(some 21), (some (18, false)), .mov (.tmp 20)⟩, ⟨(some 22), (some (21, true)), .fld 0 (.tmp 1)⟩, ⟨(some 23), (some (21, true)), .load false 1 (.tmp 22)⟩, ⟨(some 24), (some (21, true)), .mov (.tmp 3)⟩, ⟨(some 25), (some (21, true)), .bin false .sub (.tmp 24) (.cst (.int .i64 1))⟩, ⟨(some 26), (some (21, true)), .idx 3 (.tmp 23) (.tmp 25)⟩, ⟨(some 27), (some (21, true)), .fld 0 (.tmp 26)⟩, ⟨(some 28), (some (21, true)), .load false 1 (.tmp 27)⟩, ⟨(some 29), (some (21, true)), .fld 0 (.tmp 4)⟩, ⟨(some 30), (some (21, true)), .load false 1 (.tmp 29)⟩, ⟨(some 31), (some (21, true)), .bin false .geq (.tmp 28) (.tmp 30)⟩, ⟨(some 32), (some (18, false)), .pick (.tmp 21) (.tmp 31) (.cst (.bool false))⟩, ⟨(some 33), none, .pick (.tmp 18) (.cst (.bool true)) (.tmp 32)⟩]
def pcashbookref18_Rightr5 : List GOp := [⟨(some 2), none, .mov (.cst (.bool false))⟩]
def pcashbookref18_Rightr6 : List GOp := [⟨(some 34), none, .bin false .add (.tmp 10) (.cst (.int .i64 1))⟩, ⟨(some 10), none, .mov (.tmp 34)⟩]
def pcashbookref18_Rightl7 : AC := (.keep [] [(1, false), (8, false), (9, false), (10, false)] [(.loc 1 0, false)] [.loc 4 0] [] (.seq (.ops pcashbookref18_Rightr2) (.seq (.cond (.tmp 11) .skip (.exit 0)) (.seq (.pass 1 (.seq (.ops pcashbookref18_Rightr3) (.seq (.draw [] pcashbookref18_Rightr4) (.cond (.tmp 33) (.seq (.ops pcashbookref18_Rightr5) (.keep [] [(2, false)] [] [.loc 1 0, .loc 4 0, .loc 6 0] [] .ret)) .skip)))) (.ops pcashbookref18_Rightr6)))))
def pcashbookref18_Rightr8 : List GOp := [⟨(some 35), none, .fld 1 (.tmp 1)⟩, ⟨(some 36), none, .load false 1 (.tmp 35)⟩, ⟨(some 37), none, .len false (.tmp 36)⟩, ⟨(some 38), none, .mov (.cst (.int .i64 0))⟩]
def pcashbookref18_Rightr9 : List GOp := [⟨(some 39), none, .bin false .lss (.tmp 38) (.tmp 37)⟩]
def pcashbookref18_Rightr10 : List GOp := [⟨(some 40), none, .mov (.tmp 38)⟩, ⟨(some 41), none, .idx 8 (.tmp 36) (.tmp 38)⟩, ⟨(some 42), none, .load true 8 (.tmp 41)⟩, ⟨(some 6), none, .alloc [.pv (.int .i64 0), .pv (.int .i64 0), .pv (.int .i64 0), .pv (.int .i64 0), .pv (.int .i64 0), .pv (.int .i64 0), .pv (.int .i32 0), .pv (.int .i32 0)]⟩, ⟨(some 5), none, .mov (.tmp 40)⟩, ⟨none, none, .store 8 (.tmp 6) (.tmp 42)⟩]
def pcashbookref18_Rightr11 : List GOp := [⟨(some 43), none, .load true 8 (.tmp 6)⟩, ⟨(some 44), none, .call 0 0 (.cst (.fn 23)) [(.tmp 43)] [] []⟩, ⟨(some 45), none, .un .not (.tmp 44)⟩, ⟨(some 46), none, .mov (.tmp 45)⟩, ⟨(some 47), (some (46, false)), .load true 8 (.tmp 6)⟩, ⟨(some 48), (some (46, false)), .call 0 0 (.cst (.fn 24)) [(.tmp 47)] [] []⟩, ⟨(some 49), (some (46, false)), .un .not (.tmp 48)⟩, ⟨(some 50), none, .pick (.tmp 46) (.cst (.bool true)) (.tmp 49)⟩, ⟨(some 51), none, .mov (.tmp 50)⟩, ⟨(some 52), (some (51, false)), .mov (.tmp 5)⟩, ⟨(some 53), (some (51, false)), .bin false .gtr (.tmp 52) (.cst (.int .i64 0))⟩, ⟨(some 54), (some (51, false)), .mov (.tmp 53)⟩, ⟨(some 55), (some (54, true)), .fld 1 (.tmp 1)⟩, ⟨(some 56), (some (54, true)), .load false 1 (.tmp 55)⟩, ⟨(some 57), (some (54, true)), .mov (.tmp 5)⟩, ⟨(some 58), (some (54, true)), .bin false .sub (.tmp 57) (.cst (.int .i64 1))⟩, ⟨(some 59), (some (54, true)), .idx 8 (.tmp 56) (.tmp 58)⟩, ⟨(some 60), (some (54, true)), .fld 0 (.tmp 59)⟩, ⟨(some 61), (some (54, true)), .load false 1 (.tmp 60)⟩, ⟨(some 62), (some (54, true)), .fld 0 (.tmp 6)⟩, ⟨(some 63), (some (54, true)), .load false 1 (.tmp 62)⟩, ⟨(some 64), (some (54, true)), .bin false .geq (.tmp 61) (.tmp 63)⟩, ⟨(some 65), (some (51, false)), .pick (.tmp 54) (.tmp 64) (.cst (.bool false))⟩, ⟨(some 66), none, .pick (.tmp 51) (.cst (.bool true)) (.tmp 65)⟩, ⟨(some 67), none, .mov (.tmp 66)⟩, ⟨(some 68), (some (67, false)), .fld 3 (.tmp 6)⟩, ⟨(some 69), (some (67, false)), .load false 1 (.tmp 68)⟩, ⟨(some 70), (some (67, false)), .bin false .gtr (.tmp 69) (.cst (.int .i64 0))⟩, ⟨(some 71), (some (67, false)), .mov (.tmp 70)⟩, ⟨(some 72), (some (71, true)), .fld 0 (.tmp 1)⟩, ⟨(some 73), (some (71, true)), .load false 1 (.tmp 72)⟩, ⟨(some 74), (some (71, true)), .fld 3 (.tmp 6)⟩, ⟨(some 75), (some (71, true)), .load false 1 (.tmp 74)⟩, ⟨(some 76), (some (71, true)), .call 0 0 (.cst (.fn 21)) [(.tmp 73), (.tmp 75)] [] []⟩, ⟨(some 77), (some (71, true)), .bin false .lss (.tmp 76) (.cst (.int .i64 0))⟩, ⟨(some 78), (some (67, false)), .pick (.tmp 71) (.tmp 77) (.cst (.bool false))⟩, ⟨(some 79), none, .pick (.tmp 67) (.cst (.bool true)) (.tmp 78)⟩]
def pcashbookref18_Rightr12 : List GOp := [⟨(some 2), none, .mov (.cst (.bool false))⟩]
def pcashbookref18_Rightr13 : List GOp := [⟨(some 80), none, .bin false .add (.tmp 38) (.cst (.int .i64 1))⟩, ⟨(some 38), none, .mov (.tmp 80)⟩]
def pcashbookref18_Rightl14 : AC := (.keep [] [(1, false), (36, false), (37, false), (38, false)] [(.loc 1 0, false)] [.loc 6 0] [] (.seq (.ops pcashbookref18_Rightr9) (.seq (.cond (.tmp 39) .skip (.exit 2)) (.seq (.pass 3 (.seq (.ops pcashbookref18_Rightr10) (.seq (.draw [] pcashbookref18_Rightr11) (.cond (.tmp 79) (.seq (.ops pcashbookref18_Rightr12) (.keep [] [(2, false)] [] [.loc 1 0, .loc 4 0, .loc 6 0] [] .ret)) .skip)))) (.ops pcashbookref18_Rightr13)))))
def pcashbookref18_Rightr15 : List GOp := [⟨(some 81), none, .fld 0 (.tmp 1)⟩, ⟨(some 82), none, .load false 1 (.tmp 81)⟩, ⟨(some 83), none, .len false (.tmp 82)⟩, ⟨(some 84), none, .bin false .leq (.tmp 83) (.cst (.int .i64 100))⟩, ⟨(some 85), none, .mov (.tmp 84)⟩, ⟨(some 86), (some (85, true)), .fld 1 (.tmp 1)⟩, ⟨(some 87), (some (85, true)), .load false 1 (.tmp 86)⟩, ⟨(some 88), (some (85, true)), .len false (.tmp 87)⟩, ⟨(some 89), (some (85, true)), .bin false .leq (.tmp 88) (.cst (.int .i64 200))⟩, ⟨(some 90), none, .pick (.tmp 85) (.tmp 89) (.cst (.bool false))⟩, ⟨(some 2), none, .mov (.tmp 90)⟩]
def pcashbookref18_Rightb : AC := (.seq (.ops pcashbookref18_Rightr0) (.seq (.seq (.ops pcashbookref18_Rightr1) (.block 0 (.loop [1, 8, 9, 10] [] pcashbookref18_Rightl7))) (.seq (.seq (.keep [] [(1, false)] [(.loc 1 0, false)] [] [] (.ops pcashbookref18_Rightr8)) (.block 2 (.loop [1, 36, 37, 38] [] pcashbookref18_Rightl14))) (.seq (.keep [] [(1, false)] [(.loc 1 0, false)] [] [] (.ops pcashbookref18_Rightr15)) (.keep [] [(2, false)] [] [.loc 1 0, .loc 4 0, .loc 6 0] [] .ret)))))
def pcashbookref18_Right : Fd := ⟨1, [.tmp 2], [], pcashbookref18_Rightb⟩
theorem pcashbookref18_Right_ag : agreeF Try.prog Try.f17 pcashbookref18_Right = true := by kernel_rfl
theorem cashbookref18_Right_ok {c1 : T_api_Chart} {r : Bool} (h : cashbookref18_Right c1 = some r) : Contract Try.prog 17 [.pv (T_api_Chart.pv c1)] [] ⟨.pv (.bool r), [], []⟩ := by
  refine contract_fin hm Try.func17 pcashbookref18_Right_ag (by kernel_rfl) ?_
  unfold cashbookref18_Right at h
  refine W.seqOps (RunR.all (by kernel_rfl)) ?_
  refine W.assoc ?_
  refine W.seqOps (RunR.stat 2 (by kernel_rfl) (RunR.dyn (Step.lenT (f := T_api_Customer.pv) (l := c1.f_Customers) (by kernel_rfl)) (RunR.all (by kernel_rfl)))) ?_
  replace h := bindS h
  obtain ⟨j2, hj2, h⟩ := h
  refine W.joinOut (j := j2) (o := r) (fun p σ => σ.tidy [] [(1, false)] [(.loc 1 0, false)] [] [] = ⟨[(1, .ptr (.loc 1 0) 0)], [(.loc 1 0, .box [.pv (.slice (List.map T_api_Customer.pv c1.f_Customers)), .pv (.slice (List.map T_api_Record.pv c1.f_Records))])]⟩) ?_ (fun p σj2 hp hsj2 => ?_) (fun p hp => ?_)
  · refine W.blockLoopO (fun q σ => ((σ.forget [1, 8, 9, 10]).killAll []).tidy [] [(1, false), (8, false), (9, false), (10, false)] [(.loc 1 0, false)] [.loc 4 0] [] = ⟨[(1, .ptr (.loc 1 0) 0), (8, .pv (.slice (List.map T_api_Customer.pv c1.f_Customers))), (9, .pv (.int .i64 (c1.f_Customers.length : Int))), (10, .pv (.int .i64 q))], [(.loc 1 0, .box [.pv (.slice (List.map T_api_Customer.pv c1.f_Customers)), .pv (.slice (List.map T_api_Record.pv c1.f_Records))])]⟩) hj2 ?_ ?_
    · exact (by (show _ = _); kernel_rfl)
    · intro x3 σj2 oj2 hJj2 h
      refine W.keep hJj2 ?_
      refine W.seqOps (RunR.all (by kernel_rfl)) ?_
      refine W.seqCond (t := decide (x3 < (c1.f_Customers.length : Int))) (by kernel_rfl) h (fun hc h' => ?_) (fun hc h' => ?_)
      · replace h := h'
        refine W.seqSkip ?_
        refine W.seqPass ?_
        refine W.assoc ?_
        replace h := bindS h
        obtain ⟨x4, hx4, h⟩ := h
        refine W.seqOps (RunR.stat 1 (by kernel_rfl) (RunR.dyn (Step.idxT (f := T_api_Customer.pv) (l := c1.f_Customers) (n := x3) (e := x4) (k := .i64) (by kernel_rfl) (by kernel_rfl) hx4 (by kernel_rfl)) (RunR.all (by kernel_rfl)))) ?_
        refine W.assoc ?_
        replace h := bindS h
        obtain ⟨x5, hx5, h⟩ := h
        replace h := bindS h
        obtain ⟨c6, hc6, h⟩ := h
        replace h := bindS h
        obtain ⟨c7, hc7, h⟩ := h
        replace h := bindS h
        obtain ⟨x8, hx8, h⟩ := h
        refine W.seqDraw (tab_cons (on := true) (fun _ => cashbookref18_Customer_ok hx5) tab_nil) (Run.stat 1 (by kernel_rfl) (Run.dyn (Step.call0 (g := 20) (caps := []) (v := .pv (.bool x5)) (by kernel_rfl) (by kernel_rfl) (by kernel_rfl) (tab_hit (by kernel_rfl)) (by kernel_rfl)) (Run.stat 1 (by kernel_rfl) (Run.dyn (Step.name (f := eBool) (e := !x5) (c := c6) (by kernel_rfl) hc6) (Run.puts 2 [(20, (bif !c6 then (.pv (.bool (decide (x3 > 0)))) else (.tup []))), (19, (bif !c6 then (.pv (.int .i64 x3)) else (.tup [])))] (by cases c6 <;> kernel_rfl) (Run.dyn (Step.gdG (!c6) (by kernel_rfl) (by
              cases c6
              · exact .inr ⟨by kernel_rfl, by kernel_rfl, Step.name (f := eBool) (e := decide (x3 > 0)) (c := c7) (by kernel_rfl) hc7⟩
              · exact .inl ⟨by kernel_rfl, by kernel_rfl⟩)) (Run.puts 4 [(25, (bif ((!c6) && c7) then (.pv (.int .i64 (IntKind.wrap .i64 (x3 - 1)))) else (.tup []))), (24, (bif ((!c6) && c7) then (.pv (.int .i64 x3)) else (.tup []))), (23, (bif ((!c6) && c7) then (.pv (.slice (List.map T_api_Customer.pv c1.f_Customers))) else (.tup []))), (22, (bif ((!c6) && c7) then (.ptr (.loc 1 0) 0) else (.tup [])))] (by cases c6 <;> cases c7 <;> kernel_rfl) (Run.dyn (Step.gdG ((!c6) && c7) (by kernel_rfl) (by
              cases c6
              · cases c7
                · exact .inl ⟨by kernel_rfl, by kernel_rfl⟩
                · exact .inr ⟨by kernel_rfl, by kernel_rfl, Step.idxT (f := T_api_Customer.pv) (l := c1.f_Customers) (n := IntKind.wrap .i64 (x3 - 1)) (e := x8) (k := .i64) (by kernel_rfl) (by kernel_rfl) hx8 (by kernel_rfl)⟩
              · cases c7
                · exact .inl ⟨by kernel_rfl, by kernel_rfl⟩
                · exact .inl ⟨by kernel_rfl, by kernel_rfl⟩)) (Run.puts 7 [(33, .pv (.bool (c6 || (c7 && (decide (x8.f_ID ≥ x4.f_ID)))))), (32, (bif !c6 then (.pv (.bool (c7 && (decide (x8.f_ID ≥ x4.f_ID))))) else (.tup []))), (31, (bif ((!c6) && c7) then (.pv (.bool (decide (x8.f_ID ≥ x4.f_ID)))) else (.tup []))), (30, (bif ((!c6) && c7) then (.pv (.int .i64 x4.f_ID)) else (.tup []))), (29, (bif ((!c6) && c7) then (.ptr (.loc 4 0) 0) else (.tup []))), (28, (bif ((!c6) && c7) then (.pv (.int .i64 x8.f_ID)) else (.tup []))), (27, (bif ((!c6) && c7) then (.ipv (T_api_Customer.pv x8) 0) else (.tup [])))] (by cases c6 <;> cases c7 <;> kernel_rfl) ((Run.nil))))))))))) ?_
        refine W.seqCond (t := (c6 || (c7 && (decide (x8.f_ID ≥ x4.f_ID))))) (by kernel_rfl) h (fun hc h' => ?_) (fun hc h' => ?_)
        · replace h := h'
          refine W.assoc ?_
          refine W.seqOps (RunR.all (by kernel_rfl)) ?_
          refine W.seqKeep rfl ?_
          cases h
          exact W.seqRet ((outw_out ret_ne (bout_o ret_ne ret_ne' (fun e => by subst e; exact (fin_ret (by kernel_rfl))))))
        · replace h := h'
          refine W.seqSkip ?_
          refine W.ops (RunR.all (by kernel_rfl)) ?_
          cases h
          exact (outw_in (by (show _ = _); kernel_rfl))
      · replace h := h'
        cases h
        exact W.seqExit ((outw_out exit_ne (bout_x (by (show _ = _); kernel_rfl))))
  · subst hp
    obtain ⟨⟩ := p
    refine W.assoc ?_
    refine W.seqKeep hsj2 ?_
    refine W.seqOps (RunR.stat 2 (by kernel_rfl) (RunR.dyn (Step.lenT (f := T_api_Record.pv) (l := c1.f_Records) (by kernel_rfl)) (RunR.all (by kernel_rfl)))) ?_
    replace h := bindS h
    obtain ⟨j9, hj9, h⟩ := h
    refine W.joinOut (j := j9) (o := r) (fun p σ => σ.tidy [] [(1, false)] [(.loc 1 0, false)] [] [] = ⟨[(1, .ptr (.loc 1 0) 0)], [(.loc 1 0, .box [.pv (.slice (List.map T_api_Customer.pv c1.f_Customers)), .pv (.slice (List.map T_api_Record.pv c1.f_Records))])]⟩) ?_ (fun p σj9 hp hsj9 => ?_) (fun p hp => ?_)
    · refine W.blockLoopO (fun q σ => ((σ.forget [1, 36, 37, 38]).killAll []).tidy [] [(1, false), (36, false), (37, false), (38, false)] [(.loc 1 0, false)] [.loc 6 0] [] = ⟨[(1, .ptr (.loc 1 0) 0), (36, .pv (.slice (List.map T_api_Record.pv c1.f_Records))), (37, .pv (.int .i64 (c1.f_Records.length : Int))), (38, .pv (.int .i64 q))], [(.loc 1 0, .box [.pv (.slice (List.map T_api_Customer.pv c1.f_Customers)), .pv (.slice (List.map T_api_Record.pv c1.f_Records))])]⟩) hj9 ?_ ?_
      · exact (by (show _ = _); kernel_rfl)
      · intro x10 σj9 oj9 hJj9 h
        refine W.keep hJj9 ?_
        refine W.seqOps (RunR.all (by kernel_rfl)) ?_
        refine W.seqCond (t := decide (x10 < (c1.f_Records.length : Int))) (by kernel_rfl) h (fun hc h' => ?_) (fun hc h' => ?_)
        · replace h := h'
          refine W.seqSkip ?_
          refine W.seqPass ?_
          refine W.assoc ?_
          replace h := bindS h
          obtain ⟨x11, hx11, h⟩ := h
          refine W.seqOps (RunR.stat 1 (by kernel_rfl) (RunR.dyn (Step.idxT (f := T_api_Record.pv) (l := c1.f_Records) (n := x10) (e := x11) (k := .i64) (by kernel_rfl) (by kernel_rfl) hx11 (by kernel_rfl)) (RunR.all (by kernel_rfl)))) ?_
          refine W.assoc ?_
          replace h := bindS h
          obtain ⟨x12, hx12, h⟩ := h
          replace h := bindS h
          obtain ⟨c13, hc13, h⟩ := h
          replace h := bindS h
          obtain ⟨x14, hx14, h⟩ := h
          replace h := bindS h
          obtain ⟨c15, hc15, h⟩ := h
          replace h := bindS h
          obtain ⟨c16, hc16, h⟩ := h
          replace h := bindS h
          obtain ⟨x17, hx17, h⟩ := h
          replace h := bindS h
          obtain ⟨c18, hc18, h⟩ := h
          replace h := bindS h
          obtain ⟨c19, hc19, h⟩ := h
          replace h := bindS h
          obtain ⟨x20, hx20, h⟩ := h
          refine W.seqDraw (tab_cons (on := true) (fun _ => cashbookref18_Record_ok hx12) (tab_cons (on := (!c13)) (fun hg => cashbookref18_Own_ok (gdO_at hg hx14)) (tab_cons (on := ((!c18) && c19)) (fun hg => cashbookref18_PlaceOf_ok (gdO_at hg hx20)) tab_nil))) (Run.stat 1 (by kernel_rfl) (Run.dyn (Step.call0 (g := 23) (caps := []) (v := .pv (.bool x12)) (by kernel_rfl) (by kernel_rfl) (by kernel_rfl) (tab_hit (by kernel_rfl)) (by kernel_rfl)) (Run.stat 1 (by kernel_rfl) (Run.dyn (Step.name (f := eBool) (e := !x12) (c := c13) (by kernel_rfl) hc13) (Run.puts 1 [(47, (bif !c13 then (.pv (T_api_Record.pv x11)) else (.tup [])))] (by cases c13 <;> kernel_rfl) (Run.dyn (Step.gdG (!c13) (by kernel_rfl) (by
                cases c13
                · exact .inr ⟨by kernel_rfl, by kernel_rfl, Step.call0 (g := 24) (caps := []) (v := .pv (.bool x14)) (by kernel_rfl) (by kernel_rfl) (by kernel_rfl) (tab_next rfl (tab_hit (by kernel_rfl))) (by kernel_rfl)⟩
                · exact .inl ⟨by kernel_rfl, by kernel_rfl⟩)) (Run.puts 2 [(50, .pv (.bool (c13 || (!x14)))), (49, (bif !c13 then (.pv (.bool (!x14))) else (.tup [])))] (by cases c13 <;> kernel_rfl) (Run.dyn (Step.name (f := eBool) (e := (c13 || (!x14))) (c := c15) (by kernel_rfl) hc15) (Run.puts 2 [(53, (bif !c15 then (.pv (.bool (decide (x10 > 0)))) else (.tup []))), (52, (bif !c15 then (.pv (.int .i64 x10)) else (.tup [])))] (by cases c15 <;> kernel_rfl) (Run.dyn (Step.gdG (!c15) (by kernel_rfl) (by
                cases c15
                · exact .inr ⟨by kernel_rfl, by kernel_rfl, Step.name (f := eBool) (e := decide (x10 > 0)) (c := c16) (by kernel_rfl) hc16⟩
                · exact .inl ⟨by kernel_rfl, by kernel_rfl⟩)) (Run.puts 4 [(58, (bif ((!c15) && c16) then (.pv (.int .i64 (IntKind.wrap .i64 (x10 - 1)))) else (.tup []))), (57, (bif ((!c15) && c16) then (.pv (.int .i64 x10)) else (.tup []))), (56, (bif ((!c15) && c16) then (.pv (.slice (List.map T_api_Record.pv c1.f_Records))) else (.tup []))), (55, (bif ((!c15) && c16) then (.ptr (.loc 1 0) 1) else (.tup [])))] (by cases c15 <;> cases c16 <;> kernel_rfl) (Run.dyn (Step.gdG ((!c15) && c16) (by kernel_rfl) (by
                cases c15
                · cases c16
                  · exact .inl ⟨by kernel_rfl, by kernel_rfl⟩
                  · exact .inr ⟨by kernel_rfl, by kernel_rfl, Step.idxT (f := T_api_Record.pv) (l := c1.f_Records) (n := IntKind.wrap .i64 (x10 - 1)) (e := x17) (k := .i64) (by kernel_rfl) (by kernel_rfl) hx17 (by kernel_rfl)⟩
                · cases c16
                  · exact .inl ⟨by kernel_rfl, by kernel_rfl⟩
                  · exact .inl ⟨by kernel_rfl, by kernel_rfl⟩)) (Run.puts 7 [(66, .pv (.bool (c15 || (c16 && (decide (x17.f_Acc ≥ x11.f_Acc)))))), (65, (bif !c15 then (.pv (.bool (c16 && (decide (x17.f_Acc ≥ x11.f_Acc))))) else (.tup []))), (64, (bif ((!c15) && c16) then (.pv (.bool (decide (x17.f_Acc ≥ x11.f_Acc)))) else (.tup []))), (63, (bif ((!c15) && c16) then (.pv (.int .i64 x11.f_Acc)) else (.tup []))), (62, (bif ((!c15) && c16) then (.ptr (.loc 6 0) 0) else (.tup []))), (61, (bif ((!c15) && c16) then (.pv (.int .i64 x17.f_Acc)) else (.tup []))), (60, (bif ((!c15) && c16) then (.ipv (T_api_Record.pv x17) 0) else (.tup [])))] (by cases c15 <;> cases c16 <;> kernel_rfl) (Run.dyn (Step.name (f := eBool) (e := (c15 || (c16 && (decide (x17.f_Acc ≥ x11.f_Acc))))) (c := c18) (by kernel_rfl) hc18) (Run.puts 3 [(70, (bif !c18 then (.pv (.bool (decide (x11.f_Customer > 0)))) else (.tup []))), (69, (bif !c18 then (.pv (.int .i64 x11.f_Customer)) else (.tup []))), (68, (bif !c18 then (.ptr (.loc 6 0) 3) else (.tup [])))] (by cases c18 <;> kernel_rfl) (Run.dyn (Step.gdG (!c18) (by kernel_rfl) (by
                cases c18
                · exact .inr ⟨by kernel_rfl, by kernel_rfl, Step.name (f := eBool) (e := decide (x11.f_Customer > 0)) (c := c19) (by kernel_rfl) hc19⟩
                · exact .inl ⟨by kernel_rfl, by kernel_rfl⟩)) (Run.puts 4 [(75, (bif ((!c18) && c19) then (.pv (.int .i64 x11.f_Customer)) else (.tup []))), (74, (bif ((!c18) && c19) then (.ptr (.loc 6 0) 3) else (.tup []))), (73, (bif ((!c18) && c19) then (.pv (.slice (List.map T_api_Customer.pv c1.f_Customers))) else (.tup []))), (72, (bif ((!c18) && c19) then (.ptr (.loc 1 0) 0) else (.tup [])))] (by cases c18 <;> cases c19 <;> kernel_rfl) (Run.dyn (Step.gdG ((!c18) && c19) (by kernel_rfl) (by
                cases c18
                · cases c19
                  · exact .inl ⟨by kernel_rfl, by kernel_rfl⟩
                  · exact .inr ⟨by kernel_rfl, by kernel_rfl, Step.call0 (g := 21) (caps := []) (v := .pv (.int .i64 x20)) (by kernel_rfl) (by kernel_rfl) (by kernel_rfl) (tab_next rfl (tab_next rfl (tab_hit (by kernel_rfl)))) (by kernel_rfl)⟩
                · cases c19
                  · exact .inl ⟨by kernel_rfl, by kernel_rfl⟩
                  · exact .inl ⟨by kernel_rfl, by kernel_rfl⟩)) (Run.puts 3 [(79, .pv (.bool (c18 || (c19 && (decide (x20 < 0)))))), (78, (bif !c18 then (.pv (.bool (c19 && (decide (x20 < 0))))) else (.tup []))), (77, (bif ((!c18) && c19) then (.pv (.bool (decide (x20 < 0)))) else (.tup [])))] (by cases c18 <;> cases c19 <;> kernel_rfl) ((Run.nil))))))))))))))))))))) ?_
          refine W.seqCond (t := (c18 || (c19 && (decide (x20 < 0))))) (by kernel_rfl) h (fun hc h' => ?_) (fun hc h' => ?_)
          · replace h := h'
            refine W.assoc ?_
            refine W.seqOps (RunR.all (by kernel_rfl)) ?_
            refine W.seqKeep rfl ?_
            cases h
            exact W.seqRet ((outw_out ret_ne (bout_o ret_ne ret_ne' (fun e => by subst e; exact (fin_ret (by kernel_rfl))))))
          · replace h := h'
            refine W.seqSkip ?_
            refine W.ops (RunR.all (by kernel_rfl)) ?_
            cases h
            exact (outw_in (by (show _ = _); kernel_rfl))
        · replace h := h'
          cases h
          exact W.seqExit ((outw_out exit_ne (bout_x (by (show _ = _); kernel_rfl))))
    · subst hp
      obtain ⟨⟩ := p
      refine W.seqKeep hsj9 ?_
      replace h := bindS h
      obtain ⟨c21, hc21, h⟩ := h
      refine W.seqOps (RunR.stat 2 (by kernel_rfl) (RunR.dyn (Step.lenT (f := T_api_Customer.pv) (l := c1.f_Customers) (by kernel_rfl)) (RunR.stat 1 (by kernel_rfl) (RunR.dyn (Step.name (f := eBool) (e := decide ((c1.f_Customers.length : Int) ≤ 100)) (c := c21) (by kernel_rfl) hc21) (RunR.puts 2 [(87, (bif c21 then (.pv (.slice (List.map T_api_Record.pv c1.f_Records))) else (.tup []))), (86, (bif c21 then (.ptr (.loc 1 0) 1) else (.tup [])))] (by cases c21 <;> kernel_rfl) (RunR.dyn (Step.gdG c21 (by kernel_rfl) (by
            cases c21
            · exact .inl ⟨by kernel_rfl, by kernel_rfl⟩
            · exact .inr ⟨by kernel_rfl, by kernel_rfl, Step.lenT (f := T_api_Record.pv) (l := c1.f_Records) (by kernel_rfl)⟩)) (RunR.puts 2 [(90, .pv (.bool (c21 && (decide ((c1.f_Records.length : Int) ≤ 200))))), (89, (bif c21 then (.pv (.bool (decide ((c1.f_Records.length : Int) ≤ 200)))) else (.tup [])))] (by cases c21 <;> kernel_rfl) (RunR.all (by kernel_rfl))))))))) ?_
      refine W.keep rfl ?_
      cases h
      exact W.ret ((fin_ret (by kernel_rfl)))
    · subst hp
      exact Option.some.inj h
  · subst hp
    exact Option.some.inj h
def pchart_in_Dater0 : List GOp := [⟨(some 6), none, .mov (.cst (.bool false))⟩]
def pchart_in_Dater1 : List GOp := [⟨(some 7), none, .mov (.tmp 0)⟩, ⟨(some 8), none, .mov (.tmp 1)⟩, ⟨(some 9), none, .bin false .geq (.tmp 7) (.tmp 8)⟩, ⟨(some 10), none, .mov (.tmp 9)⟩, ⟨(some 11), (some (10, true)), .mov (.tmp 0)⟩, ⟨(some 12), (some (10, true)), .mov (.tmp 2)⟩, ⟨(some 13), (some (10, true)), .bin false .leq (.tmp 11) (.tmp 12)⟩, ⟨(some 14), none, .pick (.tmp 10) (.tmp 13) (.cst (.bool false))⟩, ⟨(some 6), none, .mov (.tmp 14)⟩]
def pchart_in_Dateb : AC := (.seq (.ops pchart_in_Dater0) (.seq (.ops pchart_in_Dater1) (.keep [] [(6, false)] [] [] [] .ret)))
def pchart_in_Date : Fd := ⟨3, [.tmp 6], [], pchart_in_Dateb⟩
theorem pchart_in_Date_ag : agreeF Try.prog Try.f71 pchart_in_Date = true := by kernel_rfl
theorem chart_in_Date_ok {n1 : Int} {low2 : Int} {high3 : Int} {r : Bool} (h : chart_in_Date n1 low2 high3 = some r) : Contract Try.prog 71 [.pv (.int .i32 n1), .pv (.int .i32 low2), .pv (.int .i32 high3)] [] ⟨.pv (.bool r), [], []⟩ := by
  refine contract_fin hm Try.func71 pchart_in_Date_ag (by kernel_rfl) ?_
  unfold chart_in_Date at h
  refine W.seqOps (RunR.all (by kernel_rfl)) ?_
  replace h := bindS h
  obtain ⟨c4, hc4, h⟩ := h
  refine W.seqOps (RunR.stat 3 (by kernel_rfl) (RunR.dyn (Step.name (f := eBool) (e := decide (n1 ≥ low2)) (c := c4) (by kernel_rfl) hc4) (RunR.puts 4 [(14, .pv (.bool (c4 && (decide (n1 ≤ high3))))), (13, (bif c4 then (.pv (.bool (decide (n1 ≤ high3)))) else (.tup []))), (12, (bif c4 then (.pv (.int .i32 high3)) else (.tup []))), (11, (bif c4 then (.pv (.int .i32 n1)) else (.tup [])))] (by cases c4 <;> kernel_rfl) (RunR.all (by kernel_rfl))))) ?_
  refine W.keep rfl ?_
  cases h
  exact W.ret ((fin_ret (by kernel_rfl)))
def pchart_Isr0 : List GOp := [⟨(some 3), none, .box (.tmp 0)⟩, ⟨(some 6), none, .mov (.cst (.bool false))⟩, ⟨(some 7), none, .mov (.cst (.int .i64 0))⟩]
def pchart_Isr1 : List GOp := [⟨(some 11), none, .load true 2 (.tmp 3)⟩, ⟨(some 12), none, .mov (.tmp 1)⟩, ⟨(some 13), none, .call 0 0 (.cst (.fn 29)) [(.tmp 11), (.tmp 12)] [] []⟩, ⟨(some 10), none, .mov (.tmp 13)⟩, ⟨(some 14), none, .ext 0 (.tmp 10)⟩, ⟨(some 15), none, .ext 1 (.tmp 10)⟩, ⟨(some 8), none, .alloc [.pv (.int .i64 0), .pv (.int .i64 0), .pv (.int .i64 0), .pv (.int .i64 0), .pv (.int .i64 0), .pv (.int .i64 0), .pv (.int .i32 0), .pv (.int .i32 0)]⟩, ⟨none, none, .store 8 (.tmp 8) (.tmp 14)⟩, ⟨(some 9), none, .mov (.tmp 15)⟩]
def pchart_Isr2 : List GOp := [⟨(some 17), none, .mov (.tmp 9)⟩, ⟨(some 18), none, .bin false .neq (.tmp 17) (.cst (.int .i64 0))⟩, ⟨(some 16), none, .mov (.tmp 18)⟩]
def pchart_Isr3 : List GOp := [⟨(some 19), none, .mov (.tmp 9)⟩, ⟨(some 6), none, .mov (.cst (.bool false))⟩, ⟨(some 7), none, .mov (.tmp 19)⟩]
def pchart_Isr4 : List GOp := [⟨(some 21), none, .mov (.tmp 2)⟩, ⟨(some 22), none, .call 0 0 (.cst (.fn 64)) [(.tmp 21)] [] []⟩, ⟨(some 23), none, .un .not (.tmp 22)⟩, ⟨(some 20), none, .mov (.tmp 23)⟩]
def pchart_Isr5 : List GOp := [⟨(some 6), none, .mov (.cst (.bool false))⟩, ⟨(some 7), none, .mov (.cst (.int .i64 11))⟩]
def pchart_Isr6 : List GOp := [⟨(some 24), none, .mov (.tmp 2)⟩, ⟨(some 25), none, .fld 6 (.tmp 8)⟩, ⟨(some 26), none, .load false 1 (.tmp 25)⟩, ⟨(some 27), none, .fld 7 (.tmp 8)⟩, ⟨(some 28), none, .load false 1 (.tmp 27)⟩, ⟨(some 29), none, .call 0 0 (.cst (.fn 71)) [(.tmp 24), (.tmp 26), (.tmp 28)] [] []⟩, ⟨(some 6), none, .mov (.tmp 29)⟩, ⟨(some 7), none, .mov (.cst (.int .i64 0))⟩]
def pchart_Isb : AC := (.seq (.ops pchart_Isr0) (.seq (.ops pchart_Isr1) (.seq (.pass 0 (.seq (.ops pchart_Isr2) (.cond (.tmp 16) (.seq (.ops pchart_Isr3) (.keep [] [(6, false), (7, false)] [] [.loc 3 0, .loc 8 0] [] .ret)) (.seq (.ops pchart_Isr4) (.cond (.tmp 20) (.seq (.ops pchart_Isr5) (.keep [] [(6, false), (7, false)] [] [.loc 3 0, .loc 8 0] [] .ret)) .skip))))) (.seq (.ops pchart_Isr6) (.keep [] [(6, false), (7, false)] [] [.loc 3 0, .loc 8 0] [] .ret)))))
def pchart_Is : Fd := ⟨3, [.tmp 6, .tmp 7], [], pchart_Isb⟩
theorem pchart_Is_ag : agreeF Try.prog Try.f30 pchart_Is = true := by kernel_rfl
theorem chart_Is_ok {c1 : T_api_Chart} {a2 : Int} {day3 : Int} {r : Bool × Int} (h : chart_Is c1 a2 day3 = some r) : Contract Try.prog 30 [.pv (T_api_Chart.pv c1), .pv (.int .i64 a2), .pv (.int .i32 day3)] [] ⟨.tup [.pv (.bool r.1), .pv (.int .i64 r.2)], [], []⟩ := by
  refine contract_fin hm Try.func30 pchart_Is_ag (by kernel_rfl) ?_
  unfold chart_Is at h
  refine W.seqOps (RunR.all (by kernel_rfl)) ?_
  replace h := bindS h
  obtain ⟨x4, hx4, h⟩ := h
  refine W.seqOps (RunR.stat 2 (by kernel_rfl) (RunR.cons (tab_cons (on := true) (fun _ => chart_Find_ok hx4) tab_nil) (Step.call0 (g := 29) (caps := []) (v := .tup [.pv (T_api_Record.pv x4.1), .pv (.int .i64 x4.2)]) (by kernel_rfl) (by kernel_rfl) (by kernel_rfl) (tab_hit (by kernel_rfl)) (by kernel_rfl)) (RunR.all (by kernel_rfl)))) ?_
  refine W.seqPass ?_
  refine W.assoc ?_
  refine W.seqOps (RunR.all (by kernel_rfl)) ?_
  refine W.seqCond (t := (x4.2 != 0)) (by kernel_rfl) h (fun hc h' => ?_) (fun hc h' => ?_)
  · replace h := h'
    refine W.assoc ?_
    refine W.seqOps (RunR.all (by kernel_rfl)) ?_
    refine W.seqKeep rfl ?_
    cases h
    exact W.seqRet ((fin_ret (by kernel_rfl)))
  · replace h := h'
    refine W.assoc ?_
    replace h := bindS h
    obtain ⟨x5, hx5, h⟩ := h
    refine W.seqOps (RunR.stat 1 (by kernel_rfl) (RunR.cons (tab_cons (on := true) (fun _ => date_Right_ok hx5) tab_nil) (Step.call0 (g := 64) (caps := []) (v := .pv (.bool x5)) (by kernel_rfl) (by kernel_rfl) (by kernel_rfl) (tab_hit (by kernel_rfl)) (by kernel_rfl)) (RunR.all (by kernel_rfl)))) ?_
    refine W.seqCond (t := !x5) (by kernel_rfl) h (fun hc h' => ?_) (fun hc h' => ?_)
    · replace h := h'
      refine W.assoc ?_
      refine W.seqOps (RunR.all (by kernel_rfl)) ?_
      refine W.seqKeep rfl ?_
      cases h
      exact W.seqRet ((fin_ret (by kernel_rfl)))
    · replace h := h'
      refine W.seqSkip ?_
      replace h := bindS h
      obtain ⟨x6, hx6, h⟩ := h
      refine W.seqOps (RunR.stat 5 (by kernel_rfl) (RunR.cons (tab_cons (on := true) (fun _ => chart_in_Date_ok hx6) tab_nil) (Step.call0 (g := 71) (caps := []) (v := .pv (.bool x6)) (by kernel_rfl) (by kernel_rfl) (by kernel_rfl) (tab_hit (by kernel_rfl)) (by kernel_rfl)) (RunR.all (by kernel_rfl)))) ?_
      refine W.keep rfl ?_
      cases h
      exact W.ret ((fin_ret (by kernel_rfl)))
def pcashbooklaw18_aliver0 : List GOp := [⟨(some 0), none, .mov (.cst (.bool false))⟩]
def pcashbooklaw18_aliver1 : List GOp := [⟨(some 9), none, .build [.nils, .nils] []⟩, ⟨(some 10), none, .build [.pv (.int .i64 0), .pv (.int .i64 0), .pv (.int .i64 0), .pv (.int .i64 0), .pv (.int .i64 0), .pv (.int .i64 0), .pv (.int .i32 0), .pv (.int .i32 0)] [(0, 1, (.cst (.int .i64 5))), (6, 1, (.cst (.int .i32 10)))]⟩, ⟨(some 11), none, .call 0 0 (.cst (.fn 14)) [(.tmp 9), (.tmp 10)] [] []⟩, ⟨(some 8), none, .mov (.tmp 11)⟩, ⟨(some 12), none, .ext 0 (.tmp 8)⟩, ⟨(some 13), none, .ext 1 (.tmp 8)⟩, ⟨(some 1), none, .alloc [.nils, .nils]⟩, ⟨none, none, .store 2 (.tmp 1) (.tmp 12)⟩, ⟨(some 2), none, .mov (.tmp 13)⟩]
def pcashbooklaw18_aliver2 : List GOp := [⟨(some 15), none, .load true 2 (.tmp 1)⟩, ⟨(some 16), none, .call 0 0 (.cst (.fn 15)) [(.tmp 15), (.cst (.int .i64 5)), (.cst (.int .i32 20))] [] []⟩, ⟨(some 14), none, .mov (.tmp 16)⟩, ⟨(some 17), none, .ext 0 (.tmp 14)⟩, ⟨(some 18), none, .ext 1 (.tmp 14)⟩, ⟨none, none, .store 2 (.tmp 1) (.tmp 17)⟩, ⟨(some 3), none, .mov (.tmp 18)⟩]
def pcashbooklaw18_aliver3 : List GOp := [⟨(some 20), none, .load true 2 (.tmp 1)⟩, ⟨(some 21), none, .call 0 0 (.cst (.fn 30)) [(.tmp 20), (.cst (.int .i64 5)), (.cst (.int .i32 20))] [] []⟩, ⟨(some 19), none, .mov (.tmp 21)⟩, ⟨(some 22), none, .ext 0 (.tmp 19)⟩, ⟨(some 23), none, .ext 1 (.tmp 19)⟩, ⟨(some 4), none, .mov (.tmp 22)⟩, ⟨(some 5), none, .mov (.tmp 23)⟩]
def pcashbooklaw18_aliver4 : List GOp := [⟨(some 25), none, .load true 2 (.tmp 1)⟩, ⟨(some 26), none, .call 0 0 (.cst (.fn 30)) [(.tmp 25), (.cst (.int .i64 5)), (.cst (.int .i32 21))] [] []⟩, ⟨(some 24), none, .mov (.tmp 26)⟩, ⟨(some 27), none, .ext 0 (.tmp 24)⟩, ⟨(some 28), none, .ext 1 (.tmp 24)⟩, ⟨(some 6), none, .mov (.tmp 27)⟩, ⟨(some 7), none, .mov (.tmp 28)⟩]
def pcashbooklaw18_aliver5 : List GOp := [⟨(some 29), none, .mov (.tmp 2)⟩, ⟨(some 30), none, .bin false .eql (.tmp 29) (.cst (.int .i64 0))⟩, ⟨(some 31), none, .mov (.tmp 30)⟩, ⟨(some 32), (some (31, true)), .mov (.tmp 3)⟩, ⟨(some 33), (some (31, true)), .bin false .eql (.tmp 32) (.cst (.int .i64 0))⟩, ⟨(some 34), none, .pick (.tmp 31) (.tmp 33) (.cst (.bool false))⟩, ⟨(some 35), none, .mov (.tmp 34)⟩, ⟨(some 36), (some (35, true)), .mov (.tmp 5)⟩, ⟨(some 37), (some (35, true)), .bin false .eql (.tmp 36) (.cst (.int .i64 0))⟩, ⟨(some 38), none, .pick (.tmp 35) (.tmp 37) (.cst (.bool false))⟩, ⟨(some 39), none, .mov (.tmp 38)⟩, ⟨(some 40), (some (39, true)), .mov (.tmp 7)⟩, ⟨(some 41), (some (39, true)), .bin false .eql (.tmp 40) (.cst (.int .i64 0))⟩, ⟨(some 42), none, .pick (.tmp 39) (.tmp 41) (.cst (.bool false))⟩, ⟨(some 43), none, .mov (.tmp 42)⟩, ⟨(some 44), (some (43, true)), .mov (.tmp 4)⟩, ⟨(some 45), none, .pick (.tmp 43) (.tmp 44) (.cst (.bool false))⟩, ⟨(some 46), none, .mov (.tmp 45)⟩, ⟨(some 47), (some (46, true)), .mov (.tmp 6)⟩, ⟨(some 48), (some (46, true)), .un .not (.tmp 47)⟩, ⟨(some 49), none, .pick (.tmp 46) (.tmp 48) (.cst (.bool false))⟩, ⟨(some 0), none, .mov (.tmp 49)⟩]
def pcashbooklaw18_aliveb : AC := (.seq (.ops pcashbooklaw18_aliver0) (.seq (.ops pcashbooklaw18_aliver1) (.seq (.ops pcashbooklaw18_aliver2) (.seq (.ops pcashbooklaw18_aliver3) (.seq (.ops pcashbooklaw18_aliver4) (.seq (.ops pcashbooklaw18_aliver5) (.keep [] [(0, false)] [] [.loc 1 0] [] .ret)))))))
def pcashbooklaw18_alive : Fd := ⟨0, [.tmp 0], [], pcashbooklaw18_aliveb⟩
theorem pcashbooklaw18_alive_ag : agreeF Try.prog Try.f18 pcashbooklaw18_alive = true := by kernel_rfl
theorem cashbooklaw18_alive_ok {r : Bool} (h : cashbooklaw18_alive = some r) : Contract Try.prog 18 [] [] ⟨.pv (.bool r), [], []⟩ := by
  refine contract_fin hm Try.func18 pcashbooklaw18_alive_ag (by kernel_rfl) ?_
  unfold cashbooklaw18_alive at h
  refine W.seqOps (RunR.all (by kernel_rfl)) ?_
  replace h := bindS h
  obtain ⟨x1, hx1, h⟩ := h
  refine W.seqOps (RunR.stat 2 (by kernel_rfl) (RunR.cons (tab_cons (on := true) (fun _ => chart_Open_ok hx1) tab_nil) (Step.call0 (g := 14) (caps := []) (v := .tup [.pv (T_api_Chart.pv x1.1), .pv (.int .i64 x1.2)]) (by kernel_rfl) (by kernel_rfl) (by kernel_rfl) (tab_hit (by kernel_rfl)) (by kernel_rfl)) (RunR.all (by kernel_rfl)))) ?_
  replace h := bindS h
  obtain ⟨x2, hx2, h⟩ := h
  refine W.seqOps (RunR.stat 1 (by kernel_rfl) (RunR.cons (tab_cons (on := true) (fun _ => chart_Close_ok hx2) tab_nil) (Step.call0 (g := 15) (caps := []) (v := .tup [.pv (T_api_Chart.pv x2.1), .pv (.int .i64 x2.2)]) (by kernel_rfl) (by kernel_rfl) (by kernel_rfl) (tab_hit (by kernel_rfl)) (by kernel_rfl)) (RunR.all (by kernel_rfl)))) ?_
  replace h := bindS h
  obtain ⟨x3, hx3, h⟩ := h
  refine W.seqOps (RunR.stat 1 (by kernel_rfl) (RunR.cons (tab_cons (on := true) (fun _ => chart_Is_ok hx3) tab_nil) (Step.call0 (g := 30) (caps := []) (v := .tup [.pv (.bool x3.1), .pv (.int .i64 x3.2)]) (by kernel_rfl) (by kernel_rfl) (by kernel_rfl) (tab_hit (by kernel_rfl)) (by kernel_rfl)) (RunR.all (by kernel_rfl)))) ?_
  replace h := bindS h
  obtain ⟨x4, hx4, h⟩ := h
  refine W.seqOps (RunR.stat 1 (by kernel_rfl) (RunR.cons (tab_cons (on := true) (fun _ => chart_Is_ok hx4) tab_nil) (Step.call0 (g := 30) (caps := []) (v := .tup [.pv (.bool x4.1), .pv (.int .i64 x4.2)]) (by kernel_rfl) (by kernel_rfl) (by kernel_rfl) (tab_hit (by kernel_rfl)) (by kernel_rfl)) (RunR.all (by kernel_rfl)))) ?_
  replace h := bindS h
  obtain ⟨c5, hc5, h⟩ := h
  replace h := bindS h
  obtain ⟨c6, hc6, h⟩ := h
  replace h := bindS h
  obtain ⟨c7, hc7, h⟩ := h
  replace h := bindS h
  obtain ⟨c8, hc8, h⟩ := h
  replace h := bindS h
  obtain ⟨c9, hc9, h⟩ := h
  refine W.seqOps (RunR.stat 2 (by kernel_rfl) (RunR.dyn (Step.name (f := eBool) (e := (x1.2 == 0)) (c := c5) (by kernel_rfl) hc5) (RunR.puts 3 [(34, .pv (.bool (c5 && (x2.2 == 0)))), (33, (bif c5 then (.pv (.bool (x2.2 == 0))) else (.tup []))), (32, (bif c5 then (.pv (.int .i64 x2.2)) else (.tup [])))] (by cases c5 <;> kernel_rfl) (RunR.dyn (Step.name (f := eBool) (e := (c5 && (x2.2 == 0))) (c := c6) (by kernel_rfl) hc6) (RunR.puts 3 [(38, .pv (.bool (c6 && (x3.2 == 0)))), (37, (bif c6 then (.pv (.bool (x3.2 == 0))) else (.tup []))), (36, (bif c6 then (.pv (.int .i64 x3.2)) else (.tup [])))] (by cases c6 <;> kernel_rfl) (RunR.dyn (Step.name (f := eBool) (e := (c6 && (x3.2 == 0))) (c := c7) (by kernel_rfl) hc7) (RunR.puts 3 [(42, .pv (.bool (c7 && (x4.2 == 0)))), (41, (bif c7 then (.pv (.bool (x4.2 == 0))) else (.tup []))), (40, (bif c7 then (.pv (.int .i64 x4.2)) else (.tup [])))] (by cases c7 <;> kernel_rfl) (RunR.dyn (Step.name (f := eBool) (e := (c7 && (x4.2 == 0))) (c := c8) (by kernel_rfl) hc8) (RunR.puts 2 [(45, .pv (.bool (c8 && x3.1))), (44, (bif c8 then (.pv (.bool x3.1)) else (.tup [])))] (by cases c8 <;> kernel_rfl) (RunR.dyn (Step.name (f := eBool) (e := (c8 && x3.1)) (c := c9) (by kernel_rfl) hc9) (RunR.puts 3 [(49, .pv (.bool (c9 && (!x4.1)))), (48, (bif c9 then (.pv (.bool (!x4.1))) else (.tup []))), (47, (bif c9 then (.pv (.bool x4.1)) else (.tup [])))] (by cases c9 <;> kernel_rfl) (RunR.all (by kernel_rfl))))))))))))) ?_
  refine W.keep rfl ?_
  cases h
  exact W.ret ((fin_ret (by kernel_rfl)))
def pcashbookref18_Samer0 : List GOp := [⟨(some 2), none, .box (.tmp 0)⟩, ⟨(some 3), none, .box (.tmp 1)⟩, ⟨(some 4), none, .mov (.cst (.bool false))⟩]
def pcashbookref18_Samer1 : List GOp := [⟨(some 7), none, .fld 0 (.tmp 2)⟩, ⟨(some 8), none, .load false 1 (.tmp 7)⟩, ⟨(some 9), none, .len false (.tmp 8)⟩, ⟨(some 10), none, .fld 0 (.tmp 3)⟩, ⟨(some 11), none, .load false 1 (.tmp 10)⟩, ⟨(some 12), none, .len false (.tmp 11)⟩, ⟨(some 13), none, .bin false .neq (.tmp 9) (.tmp 12)⟩, ⟨(some 14), none, .mov (.tmp 13)⟩, ⟨(some 15), (some (14, false)), .fld 1 (.tmp 2)⟩, ⟨(some 16), (some (14, false)), .load false 1 (.tmp 15)⟩, ⟨(some 17), (some (14, false)), .len false (.tmp 16)⟩, ⟨(some 18), (some (14, false)), .fld 1 (.tmp 3)⟩, ⟨(some 19), (some (14, false)), .load false 1 (.tmp 18)⟩, ⟨(some 20), (some (14, false)), .len false (.tmp 19)⟩, ⟨(some 21), (some (14, false)), .bin false .neq (.tmp 17) (.tmp 20)⟩, ⟨(some 22), none, .pick (.tmp 14) (.cst (.bool true)) (.tmp 21)⟩]
def pcashbookref18_Samer2 : List GOp := [⟨(some 4), none, .mov (.cst (.bool false))⟩]
def pcashbookref18_Samer3 : List GOp := [⟨(some 23), none, .fld 0 (.tmp 2)⟩, ⟨(some 24), none, .load false 1 (.tmp 23)⟩, ⟨(some 25), none, .len false (.tmp 24)⟩, ⟨(some 26), none, .mov (.cst (.int .i64 0))⟩]
def pcashbookref18_Samer4 : List GOp := [⟨(some 27), none, .bin false .lss (.tmp 26) (.tmp 25)⟩]
def pcashbookref18_Samer5 : List GOp := [⟨(some 28), none, .mov (.tmp 26)⟩, ⟨(some 5), none, .mov (.tmp 28)⟩]
def pcashbookref18_Samer6 : List GOp := [⟨(some 29), none, .fld 0 (.tmp 2)⟩, ⟨(some 30), none, .load false 1 (.tmp 29)⟩, ⟨(some 31), none, .mov (.tmp 5)⟩, ⟨(some 32), none, .idx 3 (.tmp 30) (.tmp 31)⟩, ⟨(some 33), none, .load true 3 (.tmp 32)⟩, ⟨(some 34), none, .fld 0 (.tmp 3)⟩, ⟨(some 35), none, .load false 1 (.tmp 34)⟩, ⟨(some 36), none, .mov (.tmp 5)⟩, ⟨(some 37), none, .idx 3 (.tmp 35) (.tmp 36)⟩, ⟨(some 38), none, .load true 3 (.tmp 37)⟩, ⟨(some 39), none, .eqs true [.i, .s, .i] (.tmp 33) (.tmp 38)⟩]
def pcashbookref18_Samer7 : List GOp := [⟨(some 4), none, .mov (.cst (.bool false))⟩]
def pcashbookref18_Samer8 : List GOp := [⟨(some 40), none, .bin false .add (.tmp 26) (.cst (.int .i64 1))⟩, ⟨(some 26), none, .mov (.tmp 40)⟩]
def pcashbookref18_Samel9 : AC := (.keep [] [(2, false), (3, false), (25, false), (26, false)] [(.loc 2 0, false), (.loc 3 0, false)] [] [] (.seq (.ops pcashbookref18_Samer4) (.seq (.cond (.tmp 27) .skip (.exit 0)) (.seq (.pass 1 (.seq (.ops pcashbookref18_Samer5) (.seq (.draw [] pcashbookref18_Samer6) (.cond (.tmp 39) (.seq (.ops pcashbookref18_Samer7) (.keep [] [(4, false)] [] [.loc 2 0, .loc 3 0] [] .ret)) .skip)))) (.ops pcashbookref18_Samer8)))))
def pcashbookref18_Samer10 : List GOp := [⟨(some 41), none, .fld 1 (.tmp 2)⟩, ⟨(some 42), none, .load false 1 (.tmp 41)⟩, ⟨(some 43), none, .len false (.tmp 42)⟩, ⟨(some 44), none, .mov (.cst (.int .i64 0))⟩]
def pcashbookref18_Samer11 : List GOp := [⟨(some 45), none, .bin false .lss (.tmp 44) (.tmp 43)⟩]
def pcashbookref18_Samer12 : List GOp := [⟨(some 46), none, .mov (.tmp 44)⟩, ⟨(some 6), none, .mov (.tmp 46)⟩]
def pcashbookref18_Samer13 : List GOp := [⟨(some 47), none, .fld 1 (.tmp 2)⟩, ⟨(some 48), none, .load false 1 (.tmp 47)⟩, ⟨(some 49), none, .mov (.tmp 6)⟩, ⟨(some 50), none, .idx 8 (.tmp 48) (.tmp 49)⟩, ⟨(some 51), none, .load true 8 (.tmp 50)⟩, ⟨(some 52), none, .fld 1 (.tmp 3)⟩, ⟨(some 53), none, .load false 1 (.tmp 52)⟩, ⟨(some 54), none, .mov (.tmp 6)⟩, ⟨(some 55), none, .idx 8 (.tmp 53) (.tmp 54)⟩, ⟨(some 56), none, .load true 8 (.tmp 55)⟩, ⟨(some 57), none, .eqs true [.i, .i, .i, .i, .i, .i, .i, .i] (.tmp 51) (.tmp 56)⟩]
def pcashbookref18_Samer14 : List GOp := [⟨(some 4), none, .mov (.cst (.bool false))⟩]
def pcashbookref18_Samer15 : List GOp := [⟨(some 58), none, .bin false .add (.tmp 44) (.cst (.int .i64 1))⟩, ⟨(some 44), none, .mov (.tmp 58)⟩]
def pcashbookref18_Samel16 : AC := (.keep [] [(2, false), (3, false), (43, false), (44, false)] [(.loc 2 0, false), (.loc 3 0, false)] [] [] (.seq (.ops pcashbookref18_Samer11) (.seq (.cond (.tmp 45) .skip (.exit 2)) (.seq (.pass 3 (.seq (.ops pcashbookref18_Samer12) (.seq (.draw [] pcashbookref18_Samer13) (.cond (.tmp 57) (.seq (.ops pcashbookref18_Samer14) (.keep [] [(4, false)] [] [.loc 2 0, .loc 3 0] [] .ret)) .skip)))) (.ops pcashbookref18_Samer15)))))
def pcashbookref18_Samer17 : List GOp := [⟨(some 4), none, .mov (.cst (.bool true))⟩]
def pcashbookref18_Sameb : AC := (.seq (.ops pcashbookref18_Samer0) (.seq (.seq (.ops pcashbookref18_Samer1) (.cond (.tmp 22) (.seq (.ops pcashbookref18_Samer2) (.keep [] [(4, false)] [] [.loc 2 0, .loc 3 0] [] .ret)) .skip)) (.seq (.seq (.ops pcashbookref18_Samer3) (.block 0 (.loop [2, 3, 25, 26] [] pcashbookref18_Samel9))) (.seq (.seq (.keep [] [(2, false), (3, false)] [(.loc 2 0, false), (.loc 3 0, false)] [] [] (.ops pcashbookref18_Samer10)) (.block 2 (.loop [2, 3, 43, 44] [] pcashbookref18_Samel16))) (.seq (.keep [] [] [] [.loc 2 0, .loc 3 0] [] (.ops pcashbookref18_Samer17)) (.keep [] [(4, false)] [] [.loc 2 0, .loc 3 0] [] .ret))))))
def pcashbookref18_Same : Fd := ⟨2, [.tmp 4], [], pcashbookref18_Sameb⟩
theorem pcashbookref18_Same_ag : agreeF Try.prog Try.f19 pcashbookref18_Same = true := by kernel_rfl
theorem cashbookref18_Same_ok {a1 : T_api_Chart} {b2 : T_api_Chart} {r : Bool} (h : cashbookref18_Same a1 b2 = some r) : Contract Try.prog 19 [.pv (T_api_Chart.pv a1), .pv (T_api_Chart.pv b2)] [] ⟨.pv (.bool r), [], []⟩ := by
  refine contract_fin hm Try.func19 pcashbookref18_Same_ag (by kernel_rfl) ?_
  unfold cashbookref18_Same at h
  refine W.seqOps (RunR.all (by kernel_rfl)) ?_
  refine W.assoc ?_
  replace h := bindS h
  obtain ⟨c3, hc3, h⟩ := h
  refine W.seqOps (RunR.stat 2 (by kernel_rfl) (RunR.dyn (Step.lenT (f := T_api_Customer.pv) (l := a1.f_Customers) (by kernel_rfl)) (RunR.stat 2 (by kernel_rfl) (RunR.dyn (Step.lenT (f := T_api_Customer.pv) (l := b2.f_Customers) (by kernel_rfl)) (RunR.stat 1 (by kernel_rfl) (RunR.dyn (Step.name (f := eBool) (e := ((a1.f_Customers.length : Int) != (b2.f_Customers.length : Int))) (c := c3) (by kernel_rfl) hc3) (RunR.puts 2 [(16, (bif !c3 then (.pv (.slice (List.map T_api_Record.pv a1.f_Records))) else (.tup []))), (15, (bif !c3 then (.ptr (.loc 2 0) 1) else (.tup [])))] (by cases c3 <;> kernel_rfl) (RunR.dyn (Step.gdG (!c3) (by kernel_rfl) (by
        cases c3
        · exact .inr ⟨by kernel_rfl, by kernel_rfl, Step.lenT (f := T_api_Record.pv) (l := a1.f_Records) (by kernel_rfl)⟩
        · exact .inl ⟨by kernel_rfl, by kernel_rfl⟩)) (RunR.puts 2 [(19, (bif !c3 then (.pv (.slice (List.map T_api_Record.pv b2.f_Records))) else (.tup []))), (18, (bif !c3 then (.ptr (.loc 3 0) 1) else (.tup [])))] (by cases c3 <;> kernel_rfl) (RunR.dyn (Step.gdG (!c3) (by kernel_rfl) (by
        cases c3
        · exact .inr ⟨by kernel_rfl, by kernel_rfl, Step.lenT (f := T_api_Record.pv) (l := b2.f_Records) (by kernel_rfl)⟩
        · exact .inl ⟨by kernel_rfl, by kernel_rfl⟩)) (RunR.puts 2 [(22, .pv (.bool (c3 || ((a1.f_Records.length : Int) != (b2.f_Records.length : Int))))), (21, (bif !c3 then (.pv (.bool ((a1.f_Records.length : Int) != (b2.f_Records.length : Int)))) else (.tup [])))] (by cases c3 <;> kernel_rfl) ((.nil _))))))))))))) ?_
  refine W.seqCond (t := (c3 || ((a1.f_Records.length : Int) != (b2.f_Records.length : Int)))) (by kernel_rfl) h (fun hc h' => ?_) (fun hc h' => ?_)
  · replace h := h'
    refine W.assoc ?_
    refine W.seqOps (RunR.all (by kernel_rfl)) ?_
    refine W.seqKeep rfl ?_
    cases h
    exact W.seqRet ((fin_ret (by kernel_rfl)))
  · replace h := h'
    refine W.seqSkip ?_
    refine W.assoc ?_
    refine W.seqOps (RunR.stat 2 (by kernel_rfl) (RunR.dyn (Step.lenT (f := T_api_Customer.pv) (l := a1.f_Customers) (by kernel_rfl)) (RunR.all (by kernel_rfl)))) ?_
    replace h := bindS h
    obtain ⟨j4, hj4, h⟩ := h
    refine W.joinOut (j := j4) (o := r) (fun p σ => σ.tidy [] [(2, false), (3, false)] [(.loc 2 0, false), (.loc 3 0, false)] [] [] = ⟨[(2, .ptr (.loc 2 0) 0), (3, .ptr (.loc 3 0) 0)], [(.loc 2 0, .box [.pv (.slice (List.map T_api_Customer.pv a1.f_Customers)), .pv (.slice (List.map T_api_Record.pv a1.f_Records))]), (.loc 3 0, .box [.pv (.slice (List.map T_api_Customer.pv b2.f_Customers)), .pv (.slice (List.map T_api_Record.pv b2.f_Records))])]⟩) ?_ (fun p σj4 hp hsj4 => ?_) (fun p hp => ?_)
    · refine W.blockLoopO (fun q σ => ((σ.forget [2, 3, 25, 26]).killAll []).tidy [] [(2, false), (3, false), (25, false), (26, false)] [(.loc 2 0, false), (.loc 3 0, false)] [] [] = ⟨[(2, .ptr (.loc 2 0) 0), (3, .ptr (.loc 3 0) 0), (25, .pv (.int .i64 (a1.f_Customers.length : Int))), (26, .pv (.int .i64 q))], [(.loc 2 0, .box [.pv (.slice (List.map T_api_Customer.pv a1.f_Customers)), .pv (.slice (List.map T_api_Record.pv a1.f_Records))]), (.loc 3 0, .box [.pv (.slice (List.map T_api_Customer.pv b2.f_Customers)), .pv (.slice (List.map T_api_Record.pv b2.f_Records))])]⟩) hj4 ?_ ?_
      · exact (by (show _ = _); kernel_rfl)
      · intro x5 σj4 oj4 hJj4 h
        refine W.keep hJj4 ?_
        refine W.seqOps (RunR.all (by kernel_rfl)) ?_
        refine W.seqCond (t := decide (x5 < (a1.f_Customers.length : Int))) (by kernel_rfl) h (fun hc h' => ?_) (fun hc h' => ?_)
        · replace h := h'
          refine W.seqSkip ?_
          refine W.seqPass ?_
          refine W.assoc ?_
          refine W.seqOps (RunR.all (by kernel_rfl)) ?_
          refine W.assoc ?_
          replace h := bindS h
          obtain ⟨x6, hx6, h⟩ := h
          replace h := bindS h
          obtain ⟨x7, hx7, h⟩ := h
          refine W.seqDraw tab_nil (Run.stat 3 (by kernel_rfl) (Run.dyn (Step.idxT (f := T_api_Customer.pv) (l := a1.f_Customers) (n := x5) (e := x6) (k := .i64) (by kernel_rfl) (by kernel_rfl) hx6 (by kernel_rfl)) (Run.stat 4 (by kernel_rfl) (Run.dyn (Step.idxT (f := T_api_Customer.pv) (l := b2.f_Customers) (n := x5) (e := x7) (k := .i64) (by kernel_rfl) (by kernel_rfl) hx7 (by kernel_rfl)) (Run.all (by kernel_rfl)))))) ?_
          refine W.seqCond (t := !(T_api_Customer.same x6 x7)) (by kernel_rfl) h (fun hc h' => ?_) (fun hc h' => ?_)
          · replace h := h'
            refine W.assoc ?_
            refine W.seqOps (RunR.all (by kernel_rfl)) ?_
            refine W.seqKeep rfl ?_
            cases h
            exact W.seqRet ((outw_out ret_ne (bout_o ret_ne ret_ne' (fun e => by subst e; exact (fin_ret (by kernel_rfl))))))
          · replace h := h'
            refine W.seqSkip ?_
            refine W.ops (RunR.all (by kernel_rfl)) ?_
            cases h
            exact (outw_in (by (show _ = _); kernel_rfl))
        · replace h := h'
          cases h
          exact W.seqExit ((outw_out exit_ne (bout_x (by (show _ = _); kernel_rfl))))
    · subst hp
      obtain ⟨⟩ := p
      refine W.assoc ?_
      refine W.seqKeep hsj4 ?_
      refine W.seqOps (RunR.stat 2 (by kernel_rfl) (RunR.dyn (Step.lenT (f := T_api_Record.pv) (l := a1.f_Records) (by kernel_rfl)) (RunR.all (by kernel_rfl)))) ?_
      replace h := bindS h
      obtain ⟨j8, hj8, h⟩ := h
      refine W.joinOut (j := j8) (o := r) (fun p σ => σ.tidy [] [] [] [.loc 2 0, .loc 3 0] [] = ⟨[], []⟩) ?_ (fun p σj8 hp hsj8 => ?_) (fun p hp => ?_)
      · refine W.blockLoopO (fun q σ => ((σ.forget [2, 3, 43, 44]).killAll []).tidy [] [(2, false), (3, false), (43, false), (44, false)] [(.loc 2 0, false), (.loc 3 0, false)] [] [] = ⟨[(2, .ptr (.loc 2 0) 0), (3, .ptr (.loc 3 0) 0), (43, .pv (.int .i64 (a1.f_Records.length : Int))), (44, .pv (.int .i64 q))], [(.loc 2 0, .box [.pv (.slice (List.map T_api_Customer.pv a1.f_Customers)), .pv (.slice (List.map T_api_Record.pv a1.f_Records))]), (.loc 3 0, .box [.pv (.slice (List.map T_api_Customer.pv b2.f_Customers)), .pv (.slice (List.map T_api_Record.pv b2.f_Records))])]⟩) hj8 ?_ ?_
        · exact (by (show _ = _); kernel_rfl)
        · intro x9 σj8 oj8 hJj8 h
          refine W.keep hJj8 ?_
          refine W.seqOps (RunR.all (by kernel_rfl)) ?_
          refine W.seqCond (t := decide (x9 < (a1.f_Records.length : Int))) (by kernel_rfl) h (fun hc h' => ?_) (fun hc h' => ?_)
          · replace h := h'
            refine W.seqSkip ?_
            refine W.seqPass ?_
            refine W.assoc ?_
            refine W.seqOps (RunR.all (by kernel_rfl)) ?_
            refine W.assoc ?_
            replace h := bindS h
            obtain ⟨x10, hx10, h⟩ := h
            replace h := bindS h
            obtain ⟨x11, hx11, h⟩ := h
            refine W.seqDraw tab_nil (Run.stat 3 (by kernel_rfl) (Run.dyn (Step.idxT (f := T_api_Record.pv) (l := a1.f_Records) (n := x9) (e := x10) (k := .i64) (by kernel_rfl) (by kernel_rfl) hx10 (by kernel_rfl)) (Run.stat 4 (by kernel_rfl) (Run.dyn (Step.idxT (f := T_api_Record.pv) (l := b2.f_Records) (n := x9) (e := x11) (k := .i64) (by kernel_rfl) (by kernel_rfl) hx11 (by kernel_rfl)) (Run.all (by kernel_rfl)))))) ?_
            refine W.seqCond (t := !(T_api_Record.same x10 x11)) (by kernel_rfl) h (fun hc h' => ?_) (fun hc h' => ?_)
            · replace h := h'
              refine W.assoc ?_
              refine W.seqOps (RunR.all (by kernel_rfl)) ?_
              refine W.seqKeep rfl ?_
              cases h
              exact W.seqRet ((outw_out ret_ne (bout_o ret_ne ret_ne' (fun e => by subst e; exact (fin_ret (by kernel_rfl))))))
            · replace h := h'
              refine W.seqSkip ?_
              refine W.ops (RunR.all (by kernel_rfl)) ?_
              cases h
              exact (outw_in (by (show _ = _); kernel_rfl))
          · replace h := h'
            cases h
            exact W.seqExit ((outw_out exit_ne (bout_x (by (show _ = _); kernel_rfl))))
      · subst hp
        obtain ⟨⟩ := p
        refine W.seqKeep hsj8 ?_
        refine W.seqOps (RunR.all (by kernel_rfl)) ?_
        refine W.keep rfl ?_
        cases h
        exact W.ret ((fin_ret (by kernel_rfl)))
      · subst hp
        exact Option.some.inj h
    · subst hp
      exact Option.some.inj h
def pcashbookref18_Joinr0 : List GOp := [⟨(some 2), none, .box (.tmp 0)⟩, ⟨(some 3), none, .box (.tmp 1)⟩, ⟨(some 4), none, .alloc [.nils, .nils]⟩]
def pcashbookref18_Joinr1 : List GOp := [⟨(some 9), none, .lit false 3 []⟩, ⟨(some 5), none, .mov (.tmp 9)⟩]
def pcashbookref18_Joinr2 : List GOp := [⟨(some 6), none, .mov (.cst (.bool false))⟩]
def pcashbookref18_Joinr3 : List GOp := [⟨(some 10), none, .fld 0 (.tmp 2)⟩, ⟨(some 11), none, .load false 1 (.tmp 10)⟩, ⟨(some 12), none, .len false (.tmp 11)⟩, ⟨(some 13), none, .mov (.cst (.int .i64 0))⟩]
def pcashbookref18_Joinr4 : List GOp := [⟨(some 14), none, .bin false .lss (.tmp 13) (.tmp 12)⟩]
def pcashbookref18_Joinr5 : List GOp := [⟨(some 15), none, .idx 3 (.tmp 11) (.tmp 13)⟩, ⟨(some 16), none, .load true 3 (.tmp 15)⟩, ⟨(some 8), none, .alloc [.pv (.int .i64 0), .pv (.str []), .pv (.int .i64 0)]⟩, ⟨none, none, .store 3 (.tmp 8) (.tmp 16)⟩]
def pcashbookref18_Joinr6 : List GOp := [⟨(some 17), none, .mov (.tmp 6)⟩, ⟨(some 18), none, .un .not (.tmp 17)⟩, ⟨(some 19), none, .mov (.tmp 18)⟩, ⟨(some 20), (some (19, true)), .fld 0 (.tmp 8)⟩, ⟨(some 21), (some (19, true)), .load false 1 (.tmp 20)⟩, ⟨(some 22), (some (19, true)), .fld 0 (.tmp 3)⟩, ⟨(some 23), (some (19, true)), .load false 1 (.tmp 22)⟩, ⟨(some 24), (some (19, true)), .bin false .gtr (.tmp 21) (.tmp 23)⟩, ⟨(some 25), none, .pick (.tmp 19) (.tmp 24) (.cst (.bool false))⟩]
def pcashbookref18_Joinr7 : List GOp := [⟨(some 26), none, .mov (.tmp 5)⟩, ⟨(some 27), none, .load true 3 (.tmp 3)⟩, ⟨(some 28), none, .lit false 3 [(.tmp 27)]⟩, ⟨(some 29), none, .append 5 3 32 (.tmp 26) (.tmp 28)⟩, ⟨(some 5), none, .mov (.tmp 29)⟩]
def pcashbookref18_Joinr8 : List GOp := [⟨(some 6), none, .mov (.cst (.bool true))⟩]
def pcashbookref18_Joinr9 : List GOp := [⟨(some 30), none, .mov (.tmp 5)⟩, ⟨(some 31), none, .load true 3 (.tmp 8)⟩, ⟨(some 32), none, .lit false 3 [(.tmp 31)]⟩, ⟨(some 33), none, .append 5 3 32 (.tmp 30) (.tmp 32)⟩, ⟨(some 5), none, .mov (.tmp 33)⟩]
def pcashbookref18_Joinr10 : List GOp := [⟨(some 34), none, .bin false .add (.tmp 13) (.cst (.int .i64 1))⟩, ⟨(some 13), none, .mov (.tmp 34)⟩]
def pcashbookref18_Joinl11 : AC := (.keep [] [(2, false), (3, false), (4, false), (5, false), (6, false), (11, false), (12, false), (13, false)] [(.loc 5 0, false), (.loc 2 0, false), (.loc 3 0, false), (.loc 4 0, false)] [.loc 8 0] [.slot 5 (.loc 5 0) 3] (.seq (.ops pcashbookref18_Joinr4) (.seq (.cond (.tmp 14) .skip (.exit 0)) (.seq (.pass 1 (.seq (.ops pcashbookref18_Joinr5) (.seq (.seq (.ops pcashbookref18_Joinr6) (.cond (.tmp 25) (.seq (.ops pcashbookref18_Joinr7) (.ops pcashbookref18_Joinr8)) .skip)) (.keep [] [(2, false), (3, false), (4, false), (5, false), (6, false), (8, false), (11, false), (12, false), (13, false)] [(.loc 5 0, false), (.loc 2 0, false), (.loc 3 0, false), (.loc 4 0, false), (.loc 8 0, false)] [] [] (.ops pcashbookref18_Joinr9))))) (.ops pcashbookref18_Joinr10)))))
def pcashbookref18_Joinr12 : List GOp := [⟨(some 35), none, .mov (.tmp 6)⟩, ⟨(some 36), none, .un .not (.tmp 35)⟩]
def pcashbookref18_Joinr13 : List GOp := [⟨(some 37), none, .mov (.tmp 5)⟩, ⟨(some 38), none, .load true 3 (.tmp 3)⟩, ⟨(some 39), none, .lit false 3 [(.tmp 38)]⟩, ⟨(some 40), none, .append 5 3 32 (.tmp 37) (.tmp 39)⟩, ⟨(some 5), none, .mov (.tmp 40)⟩]
def pcashbookref18_Joinr14 : List GOp := [⟨(some 41), none, .mov (.tmp 5)⟩, ⟨(some 42), none, .fld 0 (.tmp 2)⟩, ⟨none, none, .store 1 (.tmp 42) (.tmp 41)⟩]
def pcashbookref18_Joinr15 : List GOp := [⟨(some 43), none, .load true 2 (.tmp 2)⟩, ⟨none, none, .store 2 (.tmp 4) (.tmp 43)⟩]
def pcashbookref18_Joinb : AC := (.seq (.ops pcashbookref18_Joinr0) (.seq (.ops pcashbookref18_Joinr1) (.seq (.ops pcashbookref18_Joinr2) (.seq (.seq (.ops pcashbookref18_Joinr3) (.block 0 (.loop [2, 3, 4, 5, 6, 11, 12, 13] [] pcashbookref18_Joinl11))) (.seq (.seq (.keep [] [(2, false), (3, false), (4, false), (5, false), (6, false)] [(.loc 5 0, false), (.loc 2 0, false), (.loc 3 0, false), (.loc 4 0, false)] [] [] (.ops pcashbookref18_Joinr12)) (.cond (.tmp 36) (.ops pcashbookref18_Joinr13) .skip)) (.seq (.keep [.loc 5 0] [(2, false), (4, false), (5, true)] [(.loc 2 0, false), (.loc 4 0, false)] [.loc 3 0] [] (.ops pcashbookref18_Joinr14)) (.seq (.ops pcashbookref18_Joinr15) (.keep [] [(4, false)] [(.loc 4 0, false)] [.loc 2 0] [] .ret))))))))
def pcashbookref18_Join : Fd := ⟨2, [.cell 4 true 2], [], pcashbookref18_Joinb⟩
theorem pcashbookref18_Join_ag : agreeF Try.prog Try.f22 pcashbookref18_Join = true := by kernel_rfl
theorem cashbookref18_Join_ok {c1 : T_api_Chart} {x2 : T_api_Customer} {r : T_api_Chart} (h : cashbookref18_Join c1 x2 = some r) : Contract Try.prog 22 [.pv (T_api_Chart.pv c1), .pv (T_api_Customer.pv x2)] [] ⟨.pv (T_api_Chart.pv r), [], []⟩ := by
  refine contract_fin hm Try.func22 pcashbookref18_Join_ag (by kernel_rfl) ?_
  unfold cashbookref18_Join at h
  refine W.seqOps (RunR.all (by kernel_rfl)) ?_
  refine W.seqOps (RunR.all (by kernel_rfl)) ?_
  refine W.seqOps (RunR.all (by kernel_rfl)) ?_
  refine W.assoc ?_
  refine W.seqOps (RunR.stat 2 (by kernel_rfl) (RunR.dyn (Step.lenT (f := T_api_Customer.pv) (l := c1.f_Customers) (by kernel_rfl)) (RunR.all (by kernel_rfl)))) ?_
  replace h := bindS h
  obtain ⟨j3, hj3, h⟩ := h
  refine W.join (j := j3) (fun p σ => σ.tidy [] [(2, false), (3, false), (4, false), (5, false), (6, false)] [(.loc 5 0, false), (.loc 2 0, false), (.loc 3 0, false), (.loc 4 0, false)] [] [] = ⟨[(2, .ptr (.loc 2 0) 0), (3, .ptr (.loc 3 0) 0), (4, .ptr (.loc 4 0) 0), (5, .own (.loc 5 0)), (6, .pv (.bool p.1))], [(.loc 5 0, .row 3 (List.map T_api_Customer.pv p.2)), (.loc 2 0, .box [.pv (.slice (List.map T_api_Customer.pv c1.f_Customers)), .pv (.slice (List.map T_api_Record.pv c1.f_Records))]), (.loc 3 0, .box [.pv (.int .i64 x2.f_ID), .pv (.str x2.f_Name), .pv (.int .i64 x2.f_Kind)]), (.loc 4 0, .box [.nils, .nils])]⟩) ?_ (fun σj3 hsj3 => ?_)
  · refine W.blockLoop (fun q σ => ((σ.forget [2, 3, 4, 5, 6, 11, 12, 13]).killAll []).tidy [] [(2, false), (3, false), (4, false), (5, false), (6, false), (11, false), (12, false), (13, false)] [(.loc 5 0, false), (.loc 2 0, false), (.loc 3 0, false), (.loc 4 0, false)] [.loc 8 0] [.slot 5 (.loc 5 0) 3] = ⟨[(2, .ptr (.loc 2 0) 0), (3, .ptr (.loc 3 0) 0), (4, .ptr (.loc 4 0) 0), (5, .own (.loc 5 0)), (6, .pv (.bool q.1)), (11, .pv (.slice (List.map T_api_Customer.pv c1.f_Customers))), (12, .pv (.int .i64 (c1.f_Customers.length : Int))), (13, .pv (.int .i64 q.2.1))], [(.loc 5 0, .row 3 (List.map T_api_Customer.pv q.2.2)), (.loc 2 0, .box [.pv (.slice (List.map T_api_Customer.pv c1.f_Customers)), .pv (.slice (List.map T_api_Record.pv c1.f_Records))]), (.loc 3 0, .box [.pv (.int .i64 x2.f_ID), .pv (.str x2.f_Name), .pv (.int .i64 x2.f_Kind)]), (.loc 4 0, .box [.nils, .nils])]⟩) hj3 ?_ ?_
    · exact (by (show _ = _); kernel_rfl)
    · intro q σj3 oj3 hJj3 h
      obtain ⟨done4, x5, row6⟩ := q
      refine W.keep hJj3 ?_
      refine W.seqOps (RunR.all (by kernel_rfl)) ?_
      refine W.seqCond (t := decide (x5 < (c1.f_Customers.length : Int))) (by kernel_rfl) h (fun hc h' => ?_) (fun hc h' => ?_)
      · replace h := h'
        refine W.seqSkip ?_
        refine W.seqPass ?_
        refine W.assoc ?_
        replace h := bindS h
        obtain ⟨x7, hx7, h⟩ := h
        refine W.seqOps (RunR.dyn (Step.idxT (f := T_api_Customer.pv) (l := c1.f_Customers) (n := x5) (e := x7) (k := .i64) (by kernel_rfl) (by kernel_rfl) hx7 (by kernel_rfl)) (RunR.all (by kernel_rfl))) ?_
        refine W.assoc ?_
        refine W.assoc ?_
        replace h := bindS h
        obtain ⟨c8, hc8, h⟩ := h
        refine W.seqOps (RunR.stat 2 (by kernel_rfl) (RunR.dyn (Step.name (f := eBool) (e := !done4) (c := c8) (by kernel_rfl) hc8) (RunR.puts 6 [(25, .pv (.bool (c8 && (decide (x7.f_ID > x2.f_ID))))), (24, (bif c8 then (.pv (.bool (decide (x7.f_ID > x2.f_ID)))) else (.tup []))), (23, (bif c8 then (.pv (.int .i64 x2.f_ID)) else (.tup []))), (22, (bif c8 then (.ptr (.loc 3 0) 0) else (.tup []))), (21, (bif c8 then (.pv (.int .i64 x7.f_ID)) else (.tup []))), (20, (bif c8 then (.ptr (.loc 8 0) 0) else (.tup [])))] (by cases c8 <;> kernel_rfl) ((.nil _))))) ?_
        replace h := bindS h
        obtain ⟨j9, hj9, h⟩ := h
        refine W.join (j := j9) (fun p σ => σ.tidy [] [(2, false), (3, false), (4, false), (5, false), (6, false), (8, false), (11, false), (12, false), (13, false)] [(.loc 5 0, false), (.loc 2 0, false), (.loc 3 0, false), (.loc 4 0, false), (.loc 8 0, false)] [] [] = ⟨[(2, .ptr (.loc 2 0) 0), (3, .ptr (.loc 3 0) 0), (4, .ptr (.loc 4 0) 0), (5, .own (.loc 5 0)), (6, .pv (.bool p.1)), (8, .ptr (.loc 8 0) 0), (11, .pv (.slice (List.map T_api_Customer.pv c1.f_Customers))), (12, .pv (.int .i64 (c1.f_Customers.length : Int))), (13, .pv (.int .i64 x5))], [(.loc 5 0, .row 3 (List.map T_api_Customer.pv p.2)), (.loc 2 0, .box [.pv (.slice (List.map T_api_Customer.pv c1.f_Customers)), .pv (.slice (List.map T_api_Record.pv c1.f_Records))]), (.loc 3 0, .box [.pv (.int .i64 x2.f_ID), .pv (.str x2.f_Name), .pv (.int .i64 x2.f_Kind)]), (.loc 4 0, .box [.nils, .nils]), (.loc 8 0, .box [.pv (.int .i64 x7.f_ID), .pv (.str x7.f_Name), .pv (.int .i64 x7.f_Kind)])]⟩) ?_ (fun σj9 hsj9 => ?_)
        · replace h := hj9
          refine W.condI (t := (c8 && (decide (x7.f_ID > x2.f_ID)))) (by kernel_rfl) h (fun hc h' => ?_) (fun hc h' => ?_)
          · replace h := h'
            replace h := bindS h
            obtain ⟨x10, hx10, h⟩ := h
            refine W.seqOps (RunR.stat 3 (by kernel_rfl) (RunR.dyn (Step.appendOwnT (k := .loc 5 0) (f := T_api_Customer.pv) (l := row6) (m := [x2]) (by kernel_rfl) (by kernel_rfl) (by kernel_rfl) hx10 (fun _ => rfl) (by kernel_rfl)) (RunR.all (by kernel_rfl)))) ?_
            refine W.ops (RunR.all (by kernel_rfl)) ?_
            cases h
            exact (normw (by (show _ = _); kernel_rfl))
          · replace h := h'
            cases h
            exact W.skip ((normw (by (show _ = _); kernel_rfl)))
        · obtain ⟨done11, row12⟩ := j9
          refine W.seqKeep hsj9 ?_
          replace h := bindS h
          obtain ⟨x13, hx13, h⟩ := h
          refine W.seqOps (RunR.stat 3 (by kernel_rfl) (RunR.dyn (Step.appendOwnT (k := .loc 5 0) (f := T_api_Customer.pv) (l := row12) (m := [x7]) (by kernel_rfl) (by kernel_rfl) (by kernel_rfl) hx13 (fun _ => rfl) (by kernel_rfl)) (RunR.all (by kernel_rfl)))) ?_
          refine W.ops (RunR.all (by kernel_rfl)) ?_
          cases h
          exact (outw_in (by (show _ = _); kernel_rfl))
      · replace h := h'
        cases h
        exact W.seqExit ((outw_out exit_ne (bnorm_x (by (show _ = _); kernel_rfl))))
  · obtain ⟨done14, row15⟩ := j3
    refine W.assoc ?_
    refine W.seqKeep hsj3 ?_
    refine W.seqOps (RunR.all (by kernel_rfl)) ?_
    replace h := bindS h
    obtain ⟨j16, hj16, h⟩ := h
    refine W.join (j := j16) (fun p σ => σ.tidy [.loc 5 0] [(2, false), (4, false), (5, true)] [(.loc 2 0, false), (.loc 4 0, false)] [.loc 3 0] [] = ⟨[(2, .ptr (.loc 2 0) 0), (4, .ptr (.loc 4 0) 0), (5, .pv (.slice (List.map T_api_Customer.pv p)))], [(.loc 2 0, .box [.pv (.slice (List.map T_api_Customer.pv c1.f_Customers)), .pv (.slice (List.map T_api_Record.pv c1.f_Records))]), (.loc 4 0, .box [.nils, .nils])]⟩) ?_ (fun σj16 hsj16 => ?_)
    · replace h := hj16
      refine W.condI (t := !done14) (by kernel_rfl) h (fun hc h' => ?_) (fun hc h' => ?_)
      · replace h := h'
        replace h := bindS h
        obtain ⟨x17, hx17, h⟩ := h
        refine W.ops (RunR.stat 3 (by kernel_rfl) (RunR.dyn (Step.appendOwnT (k := .loc 5 0) (f := T_api_Customer.pv) (l := row15) (m := [x2]) (by kernel_rfl) (by kernel_rfl) (by kernel_rfl) hx17 (fun _ => rfl) (by kernel_rfl)) (RunR.all (by kernel_rfl)))) ?_
        cases h
        exact (normw (by (show _ = _); kernel_rfl))
      · replace h := h'
        cases h
        exact W.skip ((normw (by (show _ = _); kernel_rfl)))
    · refine W.seqKeep hsj16 ?_
      refine W.seqOps (RunR.all (by kernel_rfl)) ?_
      refine W.seqOps (RunR.all (by kernel_rfl)) ?_
      refine W.keep rfl ?_
      cases h
      exact W.ret ((fin_ret (by kernel_rfl)))
def pcashbookref18_Placer0 : List GOp := [⟨(some 4), none, .mov (.cst (.int .i64 0))⟩]
def pcashbookref18_Placer1 : List GOp := [⟨(some 7), none, .mov (.tmp 0)⟩, ⟨(some 8), none, .len false (.tmp 7)⟩, ⟨(some 9), none, .mov (.cst (.int .i64 0))⟩]
def pcashbookref18_Placer2 : List GOp := [⟨(some 10), none, .bin false .lss (.tmp 9) (.tmp 8)⟩]
def pcashbookref18_Placer3 : List GOp := [⟨(some 11), none, .mov (.tmp 9)⟩, ⟨(some 12), none, .idx 8 (.tmp 7) (.tmp 9)⟩, ⟨(some 13), none, .load true 8 (.tmp 12)⟩, ⟨(some 6), none, .alloc [.pv (.int .i64 0), .pv (.int .i64 0), .pv (.int .i64 0), .pv (.int .i64 0), .pv (.int .i64 0), .pv (.int .i64 0), .pv (.int .i32 0), .pv (.int .i32 0)]⟩, ⟨(some 5), none, .mov (.tmp 11)⟩, ⟨none, none, .store 8 (.tmp 6) (.tmp 13)⟩]
def pcashbookref18_Placer4 : List GOp := [⟨(some 14), none, .fld 0 (.tmp 6)⟩, ⟨(some 15), none, .load false 1 (.tmp 14)⟩, ⟨(some 16), none, .mov (.tmp 1)⟩, ⟨(some 17), none, .bin false .eql (.tmp 15) (.tmp 16)⟩]
def pcashbookref18_Placer5 : List GOp := [⟨(some 18), none, .mov (.tmp 5)⟩, ⟨(some 4), none, .mov (.tmp 18)⟩]
def pcashbookref18_Placer6 : List GOp := [⟨(some 19), none, .bin false .add (.tmp 9) (.cst (.int .i64 1))⟩, ⟨(some 9), none, .mov (.tmp 19)⟩]
def pcashbookref18_Placel7 : AC := (.keep [] [(1, false), (7, false), (8, false), (9, false)] [] [.loc 6 0] [] (.seq (.ops pcashbookref18_Placer2) (.seq (.cond (.tmp 10) .skip (.exit 0)) (.seq (.pass 1 (.seq (.ops pcashbookref18_Placer3) (.seq (.ops pcashbookref18_Placer4) (.cond (.tmp 17) (.seq (.ops pcashbookref18_Placer5) (.keep [] [(4, false)] [] [.loc 6 0] [] .ret)) .skip)))) (.ops pcashbookref18_Placer6)))))
def pcashbookref18_Placer8 : List GOp := [⟨(some 4), none, .mov (.cst (.int .i64 (-1)))⟩]
def pcashbookref18_Placeb : AC := (.seq (.ops pcashbookref18_Placer0) (.seq (.seq (.ops pcashbookref18_Placer1) (.block 0 (.loop [1, 7, 8, 9] [] pcashbookref18_Placel7))) (.seq (.keep [] [] [] [] [] (.ops pcashbookref18_Placer8)) (.keep [] [(4, false)] [] [.loc 6 0] [] .ret))))
def pcashbookref18_Place : Fd := ⟨2, [.tmp 4], [], pcashbookref18_Placeb⟩
theorem pcashbookref18_Place_ag : agreeF Try.prog Try.f25 pcashbookref18_Place = true := by kernel_rfl
theorem cashbookref18_Place_ok {l1 : List T_api_Record} {a2 : Int} {r : Int} (h : cashbookref18_Place l1 a2 = some r) : Contract Try.prog 25 [.pv (.slice (List.map T_api_Record.pv l1)), .pv (.int .i64 a2)] [] ⟨.pv (.int .i64 r), [], []⟩ := by
  refine contract_fin hm Try.func25 pcashbookref18_Place_ag (by kernel_rfl) ?_
  unfold cashbookref18_Place at h
  refine W.seqOps (RunR.all (by kernel_rfl)) ?_
  refine W.assoc ?_
  refine W.seqOps (RunR.stat 1 (by kernel_rfl) (RunR.dyn (Step.lenT (f := T_api_Record.pv) (l := l1) (by kernel_rfl)) (RunR.all (by kernel_rfl)))) ?_
  replace h := bindS h
  obtain ⟨j3, hj3, h⟩ := h
  refine W.joinOut (j := j3) (o := r) (fun p σ => σ.tidy [] [] [] [] [] = ⟨[], []⟩) ?_ (fun p σj3 hp hsj3 => ?_) (fun p hp => ?_)
  · refine W.blockLoopO (fun q σ => ((σ.forget [1, 7, 8, 9]).killAll []).tidy [] [(1, false), (7, false), (8, false), (9, false)] [] [.loc 6 0] [] = ⟨[(1, .pv (.int .i64 a2)), (7, .pv (.slice (List.map T_api_Record.pv l1))), (8, .pv (.int .i64 (l1.length : Int))), (9, .pv (.int .i64 q))], []⟩) hj3 ?_ ?_
    · exact (by (show _ = _); kernel_rfl)
    · intro x4 σj3 oj3 hJj3 h
      refine W.keep hJj3 ?_
      refine W.seqOps (RunR.all (by kernel_rfl)) ?_
      refine W.seqCond (t := decide (x4 < (l1.length : Int))) (by kernel_rfl) h (fun hc h' => ?_) (fun hc h' => ?_)
      · replace h := h'
        refine W.seqSkip ?_
        refine W.seqPass ?_
        refine W.assoc ?_
        replace h := bindS h
        obtain ⟨x5, hx5, h⟩ := h
        refine W.seqOps (RunR.stat 1 (by kernel_rfl) (RunR.dyn (Step.idxT (f := T_api_Record.pv) (l := l1) (n := x4) (e := x5) (k := .i64) (by kernel_rfl) (by kernel_rfl) hx5 (by kernel_rfl)) (RunR.all (by kernel_rfl)))) ?_
        refine W.assoc ?_
        refine W.seqOps (RunR.all (by kernel_rfl)) ?_
        refine W.seqCond (t := (x5.f_Acc == a2)) (by kernel_rfl) h (fun hc h' => ?_) (fun hc h' => ?_)
        · replace h := h'
          refine W.assoc ?_
          refine W.seqOps (RunR.all (by kernel_rfl)) ?_
          refine W.seqKeep rfl ?_
          cases h
          exact W.seqRet ((outw_out ret_ne (bout_o ret_ne ret_ne' (fun e => by subst e; exact (fin_ret (by kernel_rfl))))))
        · replace h := h'
          refine W.seqSkip ?_
          refine W.ops (RunR.all (by kernel_rfl)) ?_
          cases h
          exact (outw_in (by (show _ = _); kernel_rfl))
      · replace h := h'
        cases h
        exact W.seqExit ((outw_out exit_ne (bout_x (by (show _ = _); kernel_rfl))))
  · subst hp
    obtain ⟨⟩ := p
    refine W.seqKeep hsj3 ?_
    refine W.seqOps (RunR.all (by kernel_rfl)) ?_
    refine W.keep rfl ?_
    cases h
    exact W.ret ((fin_ret (by kernel_rfl)))
  · subst hp
    exact Option.some.inj h
def pcashbookref18_Openr0 : List GOp := [⟨(some 2), none, .box (.tmp 0)⟩, ⟨(some 3), none, .box (.tmp 1)⟩, ⟨(some 4), none, .alloc [.nils, .nils]⟩]
def pcashbookref18_Openr1 : List GOp := [⟨(some 9), none, .lit false 8 []⟩, ⟨(some 5), none, .mov (.tmp 9)⟩]
def pcashbookref18_Openr2 : List GOp := [⟨(some 6), none, .mov (.cst (.bool false))⟩]
def pcashbookref18_Openr3 : List GOp := [⟨(some 10), none, .fld 1 (.tmp 2)⟩, ⟨(some 11), none, .load false 1 (.tmp 10)⟩, ⟨(some 12), none, .len false (.tmp 11)⟩, ⟨(some 13), none, .mov (.cst (.int .i64 0))⟩]
def pcashbookref18_Openr4 : List GOp := [⟨(some 14), none, .bin false .lss (.tmp 13) (.tmp 12)⟩]
def pcashbookref18_Openr5 : List GOp := [⟨(some 15), none, .idx 8 (.tmp 11) (.tmp 13)⟩, ⟨(some 16), none, .load true 8 (.tmp 15)⟩, ⟨(some 8), none, .alloc [.pv (.int .i64 0), .pv (.int .i64 0), .pv (.int .i64 0), .pv (.int .i64 0), .pv (.int .i64 0), .pv (.int .i64 0), .pv (.int .i32 0), .pv (.int .i32 0)]⟩, ⟨none, none, .store 8 (.tmp 8) (.tmp 16)⟩]
def pcashbookref18_Openr6 : List GOp := [⟨(some 17), none, .mov (.tmp 6)⟩, ⟨(some 18), none, .un .not (.tmp 17)⟩, ⟨(some 19), none, .mov (.tmp 18)⟩, ⟨(some 20), (some (19, true)), .fld 0 (.tmp 8)⟩, ⟨(some 21), (some (19, true)), .load false 1 (.tmp 20)⟩, ⟨(some 22), (some (19, true)), .fld 0 (.tmp 3)⟩, ⟨(some 23), (some (19, true)), .load false 1 (.tmp 22)⟩, ⟨(some 24), (some (19, true)), .bin false .gtr (.tmp 21) (.tmp 23)⟩, ⟨(some 25), none, .pick (.tmp 19) (.tmp 24) (.cst (.bool false))⟩]
def pcashbookref18_Openr7 : List GOp := [⟨(some 26), none, .mov (.tmp 5)⟩, ⟨(some 27), none, .load true 8 (.tmp 3)⟩, ⟨(some 28), none, .lit false 8 [(.tmp 27)]⟩, ⟨(some 29), none, .append 5 8 56 (.tmp 26) (.tmp 28)⟩, ⟨(some 5), none, .mov (.tmp 29)⟩]
def pcashbookref18_Openr8 : List GOp := [⟨(some 6), none, .mov (.cst (.bool true))⟩]
def pcashbookref18_Openr9 : List GOp := [⟨(some 30), none, .mov (.tmp 5)⟩, ⟨(some 31), none, .load true 8 (.tmp 8)⟩, ⟨(some 32), none, .lit false 8 [(.tmp 31)]⟩, ⟨(some 33), none, .append 5 8 56 (.tmp 30) (.tmp 32)⟩, ⟨(some 5), none, .mov (.tmp 33)⟩]
def pcashbookref18_Openr10 : List GOp := [⟨(some 34), none, .bin false .add (.tmp 13) (.cst (.int .i64 1))⟩, ⟨(some 13), none, .mov (.tmp 34)⟩]
def pcashbookref18_Openl11 : AC := (.keep [] [(2, false), (3, false), (4, false), (5, false), (6, false), (11, false), (12, false), (13, false)] [(.loc 5 0, false), (.loc 2 0, false), (.loc 3 0, false), (.loc 4 0, false)] [.loc 8 0] [.slot 5 (.loc 5 0) 8] (.seq (.ops pcashbookref18_Openr4) (.seq (.cond (.tmp 14) .skip (.exit 0)) (.seq (.pass 1 (.seq (.ops pcashbookref18_Openr5) (.seq (.seq (.ops pcashbookref18_Openr6) (.cond (.tmp 25) (.seq (.ops pcashbookref18_Openr7) (.ops pcashbookref18_Openr8)) .skip)) (.keep [] [(2, false), (3, false), (4, false), (5, false), (6, false), (8, false), (11, false), (12, false), (13, false)] [(.loc 5 0, false), (.loc 2 0, false), (.loc 3 0, false), (.loc 4 0, false), (.loc 8 0, false)] [] [] (.ops pcashbookref18_Openr9))))) (.ops pcashbookref18_Openr10)))))
def pcashbookref18_Openr12 : List GOp := [⟨(some 35), none, .mov (.tmp 6)⟩, ⟨(some 36), none, .un .not (.tmp 35)⟩]
def pcashbookref18_Openr13 : List GOp := [⟨(some 37), none, .mov (.tmp 5)⟩, ⟨(some 38), none, .load true 8 (.tmp 3)⟩, ⟨(some 39), none, .lit false 8 [(.tmp 38)]⟩, ⟨(some 40), none, .append 5 8 56 (.tmp 37) (.tmp 39)⟩, ⟨(some 5), none, .mov (.tmp 40)⟩]
def pcashbookref18_Openr14 : List GOp := [⟨(some 41), none, .mov (.tmp 5)⟩, ⟨(some 42), none, .fld 1 (.tmp 2)⟩, ⟨none, none, .store 1 (.tmp 42) (.tmp 41)⟩]
def pcashbookref18_Openr15 : List GOp := [⟨(some 43), none, .load true 2 (.tmp 2)⟩, ⟨none, none, .store 2 (.tmp 4) (.tmp 43)⟩]
def pcashbookref18_Openb : AC := (.seq (.ops pcashbookref18_Openr0) (.seq (.ops pcashbookref18_Openr1) (.seq (.ops pcashbookref18_Openr2) (.seq (.seq (.ops pcashbookref18_Openr3) (.block 0 (.loop [2, 3, 4, 5, 6, 11, 12, 13] [] pcashbookref18_Openl11))) (.seq (.seq (.keep [] [(2, false), (3, false), (4, false), (5, false), (6, false)] [(.loc 5 0, false), (.loc 2 0, false), (.loc 3 0, false), (.loc 4 0, false)] [] [] (.ops pcashbookref18_Openr12)) (.cond (.tmp 36) (.ops pcashbookref18_Openr13) .skip)) (.seq (.keep [.loc 5 0] [(2, false), (4, false), (5, true)] [(.loc 2 0, false), (.loc 4 0, false)] [.loc 3 0] [] (.ops pcashbookref18_Openr14)) (.seq (.ops pcashbookref18_Openr15) (.keep [] [(4, false)] [(.loc 4 0, false)] [.loc 2 0] [] .ret))))))))
def pcashbookref18_Open : Fd := ⟨2, [.cell 4 true 2], [], pcashbookref18_Openb⟩
theorem pcashbookref18_Open_ag : agreeF Try.prog Try.f26 pcashbookref18_Open = true := by kernel_rfl
theorem cashbookref18_Open_ok {c1 : T_api_Chart} {r2 : T_api_Record} {r : T_api_Chart} (h : cashbookref18_Open c1 r2 = some r) : Contract Try.prog 26 [.pv (T_api_Chart.pv c1), .pv (T_api_Record.pv r2)] [] ⟨.pv (T_api_Chart.pv r), [], []⟩ := by
  refine contract_fin hm Try.func26 pcashbookref18_Open_ag (by kernel_rfl) ?_
  unfold cashbookref18_Open at h
  refine W.seqOps (RunR.all (by kernel_rfl)) ?_
  refine W.seqOps (RunR.all (by kernel_rfl)) ?_
  refine W.seqOps (RunR.all (by kernel_rfl)) ?_
  refine W.assoc ?_
  refine W.seqOps (RunR.stat 2 (by kernel_rfl) (RunR.dyn (Step.lenT (f := T_api_Record.pv) (l := c1.f_Records) (by kernel_rfl)) (RunR.all (by kernel_rfl)))) ?_
  replace h := bindS h
  obtain ⟨j3, hj3, h⟩ := h
  refine W.join (j := j3) (fun p σ => σ.tidy [] [(2, false), (3, false), (4, false), (5, false), (6, false)] [(.loc 5 0, false), (.loc 2 0, false), (.loc 3 0, false), (.loc 4 0, false)] [] [] = ⟨[(2, .ptr (.loc 2 0) 0), (3, .ptr (.loc 3 0) 0), (4, .ptr (.loc 4 0) 0), (5, .own (.loc 5 0)), (6, .pv (.bool p.1))], [(.loc 5 0, .row 8 (List.map T_api_Record.pv p.2)), (.loc 2 0, .box [.pv (.slice (List.map T_api_Customer.pv c1.f_Customers)), .pv (.slice (List.map T_api_Record.pv c1.f_Records))]), (.loc 3 0, .box [.pv (.int .i64 r2.f_Acc), .pv (.int .i64 r2.f_Kind), .pv (.int .i64 r2.f_Cur), .pv (.int .i64 r2.f_Customer), .pv (.int .i64 r2.f_Product), .pv (.int .i64 r2.f_Partition), .pv (.int .i32 r2.f_From), .pv (.int .i32 r2.f_To)]), (.loc 4 0, .box [.nils, .nils])]⟩) ?_ (fun σj3 hsj3 => ?_)
  · refine W.blockLoop (fun q σ => ((σ.forget [2, 3, 4, 5, 6, 11, 12, 13]).killAll []).tidy [] [(2, false), (3, false), (4, false), (5, false), (6, false), (11, false), (12, false), (13, false)] [(.loc 5 0, false), (.loc 2 0, false), (.loc 3 0, false), (.loc 4 0, false)] [.loc 8 0] [.slot 5 (.loc 5 0) 8] = ⟨[(2, .ptr (.loc 2 0) 0), (3, .ptr (.loc 3 0) 0), (4, .ptr (.loc 4 0) 0), (5, .own (.loc 5 0)), (6, .pv (.bool q.1)), (11, .pv (.slice (List.map T_api_Record.pv c1.f_Records))), (12, .pv (.int .i64 (c1.f_Records.length : Int))), (13, .pv (.int .i64 q.2.1))], [(.loc 5 0, .row 8 (List.map T_api_Record.pv q.2.2)), (.loc 2 0, .box [.pv (.slice (List.map T_api_Customer.pv c1.f_Customers)), .pv (.slice (List.map T_api_Record.pv c1.f_Records))]), (.loc 3 0, .box [.pv (.int .i64 r2.f_Acc), .pv (.int .i64 r2.f_Kind), .pv (.int .i64 r2.f_Cur), .pv (.int .i64 r2.f_Customer), .pv (.int .i64 r2.f_Product), .pv (.int .i64 r2.f_Partition), .pv (.int .i32 r2.f_From), .pv (.int .i32 r2.f_To)]), (.loc 4 0, .box [.nils, .nils])]⟩) hj3 ?_ ?_
    · exact (by (show _ = _); kernel_rfl)
    · intro q σj3 oj3 hJj3 h
      obtain ⟨done4, x5, row6⟩ := q
      refine W.keep hJj3 ?_
      refine W.seqOps (RunR.all (by kernel_rfl)) ?_
      refine W.seqCond (t := decide (x5 < (c1.f_Records.length : Int))) (by kernel_rfl) h (fun hc h' => ?_) (fun hc h' => ?_)
      · replace h := h'
        refine W.seqSkip ?_
        refine W.seqPass ?_
        refine W.assoc ?_
        replace h := bindS h
        obtain ⟨x7, hx7, h⟩ := h
        refine W.seqOps (RunR.dyn (Step.idxT (f := T_api_Record.pv) (l := c1.f_Records) (n := x5) (e := x7) (k := .i64) (by kernel_rfl) (by kernel_rfl) hx7 (by kernel_rfl)) (RunR.all (by kernel_rfl))) ?_
        refine W.assoc ?_
        refine W.assoc ?_
        replace h := bindS h
        obtain ⟨c8, hc8, h⟩ := h
        refine W.seqOps (RunR.stat 2 (by kernel_rfl) (RunR.dyn (Step.name (f := eBool) (e := !done4) (c := c8) (by kernel_rfl) hc8) (RunR.puts 6 [(25, .pv (.bool (c8 && (decide (x7.f_Acc > r2.f_Acc))))), (24, (bif c8 then (.pv (.bool (decide (x7.f_Acc > r2.f_Acc)))) else (.tup []))), (23, (bif c8 then (.pv (.int .i64 r2.f_Acc)) else (.tup []))), (22, (bif c8 then (.ptr (.loc 3 0) 0) else (.tup []))), (21, (bif c8 then (.pv (.int .i64 x7.f_Acc)) else (.tup []))), (20, (bif c8 then (.ptr (.loc 8 0) 0) else (.tup [])))] (by cases c8 <;> kernel_rfl) ((.nil _))))) ?_
        replace h := bindS h
        obtain ⟨j9, hj9, h⟩ := h
        refine W.join (j := j9) (fun p σ => σ.tidy [] [(2, false), (3, false), (4, false), (5, false), (6, false), (8, false), (11, false), (12, false), (13, false)] [(.loc 5 0, false), (.loc 2 0, false), (.loc 3 0, false), (.loc 4 0, false), (.loc 8 0, false)] [] [] = ⟨[(2, .ptr (.loc 2 0) 0), (3, .ptr (.loc 3 0) 0), (4, .ptr (.loc 4 0) 0), (5, .own (.loc 5 0)), (6, .pv (.bool p.1)), (8, .ptr (.loc 8 0) 0), (11, .pv (.slice (List.map T_api_Record.pv c1.f_Records))), (12, .pv (.int .i64 (c1.f_Records.length : Int))), (13, .pv (.int .i64 x5))], [(.loc 5 0, .row 8 (List.map T_api_Record.pv p.2)), (.loc 2 0, .box [.pv (.slice (List.map T_api_Customer.pv c1.f_Customers)), .pv (.slice (List.map T_api_Record.pv c1.f_Records))]), (.loc 3 0, .box [.pv (.int .i64 r2.f_Acc), .pv (.int .i64 r2.f_Kind), .pv (.int .i64 r2.f_Cur), .pv (.int .i64 r2.f_Customer), .pv (.int .i64 r2.f_Product), .pv (.int .i64 r2.f_Partition), .pv (.int .i32 r2.f_From), .pv (.int .i32 r2.f_To)]), (.loc 4 0, .box [.nils, .nils]), (.loc 8 0, .box [.pv (.int .i64 x7.f_Acc), .pv (.int .i64 x7.f_Kind), .pv (.int .i64 x7.f_Cur), .pv (.int .i64 x7.f_Customer), .pv (.int .i64 x7.f_Product), .pv (.int .i64 x7.f_Partition), .pv (.int .i32 x7.f_From), .pv (.int .i32 x7.f_To)])]⟩) ?_ (fun σj9 hsj9 => ?_)
        · replace h := hj9
          refine W.condI (t := (c8 && (decide (x7.f_Acc > r2.f_Acc)))) (by kernel_rfl) h (fun hc h' => ?_) (fun hc h' => ?_)
          · replace h := h'
            replace h := bindS h
            obtain ⟨x10, hx10, h⟩ := h
            refine W.seqOps (RunR.stat 3 (by kernel_rfl) (RunR.dyn (Step.appendOwnT (k := .loc 5 0) (f := T_api_Record.pv) (l := row6) (m := [r2]) (by kernel_rfl) (by kernel_rfl) (by kernel_rfl) hx10 (fun _ => rfl) (by kernel_rfl)) (RunR.all (by kernel_rfl)))) ?_
            refine W.ops (RunR.all (by kernel_rfl)) ?_
            cases h
            exact (normw (by (show _ = _); kernel_rfl))
          · replace h := h'
            cases h
            exact W.skip ((normw (by (show _ = _); kernel_rfl)))
        · obtain ⟨done11, row12⟩ := j9
          refine W.seqKeep hsj9 ?_
          replace h := bindS h
          obtain ⟨x13, hx13, h⟩ := h
          refine W.seqOps (RunR.stat 3 (by kernel_rfl) (RunR.dyn (Step.appendOwnT (k := .loc 5 0) (f := T_api_Record.pv) (l := row12) (m := [x7]) (by kernel_rfl) (by kernel_rfl) (by kernel_rfl) hx13 (fun _ => rfl) (by kernel_rfl)) (RunR.all (by kernel_rfl)))) ?_
          refine W.ops (RunR.all (by kernel_rfl)) ?_
          cases h
          exact (outw_in (by (show _ = _); kernel_rfl))
      · replace h := h'
        cases h
        exact W.seqExit ((outw_out exit_ne (bnorm_x (by (show _ = _); kernel_rfl))))
  · obtain ⟨done14, row15⟩ := j3
    refine W.assoc ?_
    refine W.seqKeep hsj3 ?_
    refine W.seqOps (RunR.all (by kernel_rfl)) ?_
    replace h := bindS h
    obtain ⟨j16, hj16, h⟩ := h
    refine W.join (j := j16) (fun p σ => σ.tidy [.loc 5 0] [(2, false), (4, false), (5, true)] [(.loc 2 0, false), (.loc 4 0, false)] [.loc 3 0] [] = ⟨[(2, .ptr (.loc 2 0) 0), (4, .ptr (.loc 4 0) 0), (5, .pv (.slice (List.map T_api_Record.pv p)))], [(.loc 2 0, .box [.pv (.slice (List.map T_api_Customer.pv c1.f_Customers)), .pv (.slice (List.map T_api_Record.pv c1.f_Records))]), (.loc 4 0, .box [.nils, .nils])]⟩) ?_ (fun σj16 hsj16 => ?_)
    · replace h := hj16
      refine W.condI (t := !done14) (by kernel_rfl) h (fun hc h' => ?_) (fun hc h' => ?_)
      · replace h := h'
        replace h := bindS h
        obtain ⟨x17, hx17, h⟩ := h
        refine W.ops (RunR.stat 3 (by kernel_rfl) (RunR.dyn (Step.appendOwnT (k := .loc 5 0) (f := T_api_Record.pv) (l := row15) (m := [r2]) (by kernel_rfl) (by kernel_rfl) (by kernel_rfl) hx17 (fun _ => rfl) (by kernel_rfl)) (RunR.all (by kernel_rfl)))) ?_
        cases h
        exact (normw (by (show _ = _); kernel_rfl))
      · replace h := h'
        cases h
        exact W.skip ((normw (by (show _ = _); kernel_rfl)))
    · refine W.seqKeep hsj16 ?_
      refine W.seqOps (RunR.all (by kernel_rfl)) ?_
      refine W.seqOps (RunR.all (by kernel_rfl)) ?_
      refine W.keep rfl ?_
      cases h
      exact W.ret ((fin_ret (by kernel_rfl)))
def pcashbookref18_Closer0 : List GOp := [⟨(some 3), none, .box (.tmp 0)⟩, ⟨(some 6), none, .alloc [.nils, .nils]⟩]
def pcashbookref18_Closer1 : List GOp := [⟨(some 10), none, .lit false 8 []⟩, ⟨(some 7), none, .mov (.tmp 10)⟩]
def pcashbookref18_Closer2 : List GOp := [⟨(some 11), none, .fld 1 (.tmp 3)⟩, ⟨(some 12), none, .load false 1 (.tmp 11)⟩, ⟨(some 13), none, .len false (.tmp 12)⟩, ⟨(some 14), none, .mov (.cst (.int .i64 0))⟩]
def pcashbookref18_Closer3 : List GOp := [⟨(some 15), none, .bin false .lss (.tmp 14) (.tmp 13)⟩]
def pcashbookref18_Closer4 : List GOp := [⟨(some 16), none, .mov (.tmp 14)⟩, ⟨(some 17), none, .idx 8 (.tmp 12) (.tmp 14)⟩, ⟨(some 18), none, .load true 8 (.tmp 17)⟩, ⟨(some 9), none, .alloc [.pv (.int .i64 0), .pv (.int .i64 0), .pv (.int .i64 0), .pv (.int .i64 0), .pv (.int .i64 0), .pv (.int .i64 0), .pv (.int .i32 0), .pv (.int .i32 0)]⟩, ⟨(some 8), none, .mov (.tmp 16)⟩, ⟨none, none, .store 8 (.tmp 9) (.tmp 18)⟩]
def pcashbookref18_Closer5 : List GOp := [⟨(some 19), none, .mov (.tmp 8)⟩, ⟨(some 20), none, .mov (.tmp 1)⟩, ⟨(some 21), none, .bin false .eql (.tmp 19) (.tmp 20)⟩]
def pcashbookref18_Closer6 : List GOp := [⟨(some 22), none, .mov (.tmp 2)⟩, ⟨(some 23), none, .fld 7 (.tmp 9)⟩, ⟨none, none, .store 1 (.tmp 23) (.tmp 22)⟩]
def pcashbookref18_Closer7 : List GOp := [⟨(some 24), none, .mov (.tmp 7)⟩, ⟨(some 25), none, .load true 8 (.tmp 9)⟩, ⟨(some 26), none, .lit false 8 [(.tmp 25)]⟩, ⟨(some 27), none, .append 7 8 56 (.tmp 24) (.tmp 26)⟩, ⟨(some 7), none, .mov (.tmp 27)⟩]
def pcashbookref18_Closer8 : List GOp := [⟨(some 28), none, .bin false .add (.tmp 14) (.cst (.int .i64 1))⟩, ⟨(some 14), none, .mov (.tmp 28)⟩]
def pcashbookref18_Closel9 : AC := (.keep [] [(1, false), (2, false), (3, false), (6, false), (7, false), (12, false), (13, false), (14, false)] [(.loc 7 0, false), (.loc 3 0, false), (.loc 6 0, false)] [.loc 9 0] [.slot 7 (.loc 7 0) 8] (.seq (.ops pcashbookref18_Closer3) (.seq (.cond (.tmp 15) .skip (.exit 0)) (.seq (.pass 1 (.seq (.ops pcashbookref18_Closer4) (.seq (.seq (.ops pcashbookref18_Closer5) (.cond (.tmp 21) (.ops pcashbookref18_Closer6) .skip)) (.keep [] [(1, false), (2, false), (3, false), (6, false), (7, false), (9, false), (12, false), (13, false), (14, false)] [(.loc 7 0, false), (.loc 3 0, false), (.loc 6 0, false), (.loc 9 0, false)] [] [] (.ops pcashbookref18_Closer7))))) (.ops pcashbookref18_Closer8)))))
def pcashbookref18_Closer10 : List GOp := [⟨(some 29), none, .mov (.tmp 7)⟩, ⟨(some 30), none, .fld 1 (.tmp 3)⟩, ⟨none, none, .store 1 (.tmp 30) (.tmp 29)⟩]
def pcashbookref18_Closer11 : List GOp := [⟨(some 31), none, .load true 2 (.tmp 3)⟩, ⟨none, none, .store 2 (.tmp 6) (.tmp 31)⟩]
def pcashbookref18_Closeb : AC := (.seq (.ops pcashbookref18_Closer0) (.seq (.ops pcashbookref18_Closer1) (.seq (.seq (.ops pcashbookref18_Closer2) (.block 0 (.loop [1, 2, 3, 6, 7, 12, 13, 14] [] pcashbookref18_Closel9))) (.seq (.keep [.loc 7 0] [(3, false), (6, false), (7, true)] [(.loc 3 0, false), (.loc 6 0, false)] [] [] (.ops pcashbookref18_Closer10)) (.seq (.ops pcashbookref18_Closer11) (.keep [] [(6, false)] [(.loc 6 0, false)] [.loc 3 0] [] .ret))))))
def pcashbookref18_Close : Fd := ⟨3, [.cell 6 true 2], [], pcashbookref18_Closeb⟩
theorem pcashbookref18_Close_ag : agreeF Try.prog Try.f28 pcashbookref18_Close = true := by kernel_rfl
theorem cashbookref18_Close_ok {c1 : T_api_Chart} {at_2 : Int} {day3 : Int} {r : T_api_Chart} (h : cashbookref18_Close c1 at_2 day3 = some r) : Contract Try.prog 28 [.pv (T_api_Chart.pv c1), .pv (.int .i64 at_2), .pv (.int .i32 day3)] [] ⟨.pv (T_api_Chart.pv r), [], []⟩ := by
  refine contract_fin hm Try.func28 pcashbookref18_Close_ag (by kernel_rfl) ?_
  unfold cashbookref18_Close at h
  refine W.seqOps (RunR.all (by kernel_rfl)) ?_
  refine W.seqOps (RunR.all (by kernel_rfl)) ?_
  refine W.assoc ?_
  refine W.seqOps (RunR.stat 2 (by kernel_rfl) (RunR.dyn (Step.lenT (f := T_api_Record.pv) (l := c1.f_Records) (by kernel_rfl)) (RunR.all (by kernel_rfl)))) ?_
  replace h := bindS h
  obtain ⟨j4, hj4, h⟩ := h
  refine W.join (j := j4) (fun p σ => σ.tidy [.loc 7 0] [(3, false), (6, false), (7, true)] [(.loc 3 0, false), (.loc 6 0, false)] [] [] = ⟨[(3, .ptr (.loc 3 0) 0), (6, .ptr (.loc 6 0) 0), (7, .pv (.slice (List.map T_api_Record.pv p)))], [(.loc 3 0, .box [.pv (.slice (List.map T_api_Customer.pv c1.f_Customers)), .pv (.slice (List.map T_api_Record.pv c1.f_Records))]), (.loc 6 0, .box [.nils, .nils])]⟩) ?_ (fun σj4 hsj4 => ?_)
  · refine W.blockLoop (fun q σ => ((σ.forget [1, 2, 3, 6, 7, 12, 13, 14]).killAll []).tidy [] [(1, false), (2, false), (3, false), (6, false), (7, false), (12, false), (13, false), (14, false)] [(.loc 7 0, false), (.loc 3 0, false), (.loc 6 0, false)] [.loc 9 0] [.slot 7 (.loc 7 0) 8] = ⟨[(1, .pv (.int .i64 at_2)), (2, .pv (.int .i32 day3)), (3, .ptr (.loc 3 0) 0), (6, .ptr (.loc 6 0) 0), (7, .own (.loc 7 0)), (12, .pv (.slice (List.map T_api_Record.pv c1.f_Records))), (13, .pv (.int .i64 (c1.f_Records.length : Int))), (14, .pv (.int .i64 q.1))], [(.loc 7 0, .row 8 (List.map T_api_Record.pv q.2)), (.loc 3 0, .box [.pv (.slice (List.map T_api_Customer.pv c1.f_Customers)), .pv (.slice (List.map T_api_Record.pv c1.f_Records))]), (.loc 6 0, .box [.nils, .nils])]⟩) hj4 ?_ ?_
    · exact (by (show _ = _); kernel_rfl)
    · intro q σj4 oj4 hJj4 h
      obtain ⟨x5, row6⟩ := q
      refine W.keep hJj4 ?_
      refine W.seqOps (RunR.all (by kernel_rfl)) ?_
      refine W.seqCond (t := decide (x5 < (c1.f_Records.length : Int))) (by kernel_rfl) h (fun hc h' => ?_) (fun hc h' => ?_)
      · replace h := h'
        refine W.seqSkip ?_
        refine W.seqPass ?_
        refine W.assoc ?_
        replace h := bindS h
        obtain ⟨x7, hx7, h⟩ := h
        refine W.seqOps (RunR.stat 1 (by kernel_rfl) (RunR.dyn (Step.idxT (f := T_api_Record.pv) (l := c1.f_Records) (n := x5) (e := x7) (k := .i64) (by kernel_rfl) (by kernel_rfl) hx7 (by kernel_rfl)) (RunR.all (by kernel_rfl)))) ?_
        refine W.assoc ?_
        refine W.assoc ?_
        refine W.seqOps (RunR.all (by kernel_rfl)) ?_
        replace h := bindS h
        obtain ⟨j8, hj8, h⟩ := h
        refine W.join (j := j8) (fun p σ => σ.tidy [] [(1, false), (2, false), (3, false), (6, false), (7, false), (9, false), (12, false), (13, false), (14, false)] [(.loc 7 0, false), (.loc 3 0, false), (.loc 6 0, false), (.loc 9 0, false)] [] [] = ⟨[(1, .pv (.int .i64 at_2)), (2, .pv (.int .i32 day3)), (3, .ptr (.loc 3 0) 0), (6, .ptr (.loc 6 0) 0), (7, .own (.loc 7 0)), (9, .ptr (.loc 9 0) 0), (12, .pv (.slice (List.map T_api_Record.pv c1.f_Records))), (13, .pv (.int .i64 (c1.f_Records.length : Int))), (14, .pv (.int .i64 x5))], [(.loc 7 0, .row 8 (List.map T_api_Record.pv row6)), (.loc 3 0, .box [.pv (.slice (List.map T_api_Customer.pv c1.f_Customers)), .pv (.slice (List.map T_api_Record.pv c1.f_Records))]), (.loc 6 0, .box [.nils, .nils]), (.loc 9 0, .box [.pv (.int .i64 x7.f_Acc), .pv (.int .i64 x7.f_Kind), .pv (.int .i64 x7.f_Cur), .pv (.int .i64 x7.f_Customer), .pv (.int .i64 x7.f_Product), .pv (.int .i64 x7.f_Partition), .pv (.int .i32 x7.f_From), .pv (.int .i32 p)])]⟩) ?_ (fun σj8 hsj8 => ?_)
        · replace h := hj8
          refine W.condI (t := (x5 == at_2)) (by kernel_rfl) h (fun hc h' => ?_) (fun hc h' => ?_)
          · replace h := h'
            refine W.ops (RunR.all (by kernel_rfl)) ?_
            cases h
            exact (normw (by (show _ = _); kernel_rfl))
          · replace h := h'
            cases h
            exact W.skip ((normw (by (show _ = _); kernel_rfl)))
        · refine W.seqKeep hsj8 ?_
          replace h := bindS h
          obtain ⟨x10, hx10, h⟩ := h
          refine W.seqOps (RunR.stat 3 (by kernel_rfl) (RunR.dyn (Step.appendOwnT (k := .loc 7 0) (f := T_api_Record.pv) (l := row6) (m := [(⟨x7.f_Acc, x7.f_Kind, x7.f_Cur, x7.f_Customer, x7.f_Product, x7.f_Partition, x7.f_From, j8⟩ : T_api_Record)]) (by kernel_rfl) (by kernel_rfl) (by kernel_rfl) hx10 (fun _ => rfl) (by kernel_rfl)) (RunR.all (by kernel_rfl)))) ?_
          refine W.ops (RunR.all (by kernel_rfl)) ?_
          cases h
          exact (outw_in (by (show _ = _); kernel_rfl))
      · replace h := h'
        cases h
        exact W.seqExit ((outw_out exit_ne (bnorm_x (by (show _ = _); kernel_rfl))))
  · refine W.seqKeep hsj4 ?_
    refine W.seqOps (RunR.all (by kernel_rfl)) ?_
    refine W.seqOps (RunR.all (by kernel_rfl)) ?_
    refine W.keep rfl ?_
    cases h
    exact W.ret ((fin_ret (by kernel_rfl)))
def pcashbooklaw18_ChartGrowsr0 : List GOp := [⟨(some 5), none, .box (.tmp 0)⟩, ⟨(some 6), none, .box (.tmp 1)⟩, ⟨(some 7), none, .box (.tmp 2)⟩, ⟨(some 10), none, .mov (.cst (.bool false))⟩]
def pcashbooklaw18_ChartGrowsr1 : List GOp := [⟨(some 20), none, .load true 2 (.tmp 5)⟩, ⟨(some 21), none, .call 0 0 (.cst (.fn 12)) [(.tmp 20)] [] []⟩, ⟨none, none, .store 2 (.tmp 5) (.tmp 21)⟩]
def pcashbooklaw18_ChartGrowsr2 : List GOp := [⟨(some 22), none, .fld 1 (.tmp 6)⟩, ⟨(some 23), none, .load false 1 (.tmp 22)⟩, ⟨(some 24), none, .fld 1 (.tmp 6)⟩, ⟨(some 25), none, .load false 1 (.tmp 24)⟩, ⟨(some 26), none, .len true (.tmp 25)⟩, ⟨(some 27), none, .mm false (.tmp 26) [(.cst (.int .i64 40))]⟩, ⟨(some 28), none, .slc true 0 (.tmp 23) none (some (.tmp 27))⟩, ⟨(some 29), none, .fld 1 (.tmp 6)⟩, ⟨none, none, .store 1 (.tmp 29) (.tmp 28)⟩]
def pcashbooklaw18_ChartGrowsr3 : List GOp := [⟨(some 31), none, .load true 2 (.tmp 5)⟩, ⟨(some 32), none, .load true 3 (.tmp 6)⟩, ⟨(some 33), none, .call 0 0 (.cst (.fn 13)) [(.tmp 31), (.tmp 32)] [] []⟩, ⟨(some 30), none, .mov (.tmp 33)⟩, ⟨(some 34), none, .ext 0 (.tmp 30)⟩, ⟨(some 35), none, .ext 1 (.tmp 30)⟩, ⟨(some 11), none, .alloc [.nils, .nils]⟩, ⟨none, none, .store 2 (.tmp 11) (.tmp 34)⟩, ⟨(some 12), none, .mov (.tmp 35)⟩]
def pcashbooklaw18_ChartGrowsr4 : List GOp := [⟨(some 37), none, .load true 2 (.tmp 5)⟩, ⟨(some 38), none, .load true 8 (.tmp 7)⟩, ⟨(some 39), none, .call 0 0 (.cst (.fn 14)) [(.tmp 37), (.tmp 38)] [] []⟩, ⟨(some 36), none, .mov (.tmp 39)⟩, ⟨(some 40), none, .ext 0 (.tmp 36)⟩, ⟨(some 41), none, .ext 1 (.tmp 36)⟩, ⟨(some 13), none, .alloc [.nils, .nils]⟩, ⟨none, none, .store 2 (.tmp 13) (.tmp 40)⟩, ⟨(some 14), none, .mov (.tmp 41)⟩]
def pcashbooklaw18_ChartGrowsr5 : List GOp := [⟨(some 43), none, .load true 2 (.tmp 5)⟩, ⟨(some 44), none, .mov (.tmp 3)⟩, ⟨(some 45), none, .mov (.tmp 4)⟩, ⟨(some 46), none, .call 0 0 (.cst (.fn 15)) [(.tmp 43), (.tmp 44), (.tmp 45)] [] []⟩, ⟨(some 42), none, .mov (.tmp 46)⟩, ⟨(some 47), none, .ext 0 (.tmp 42)⟩, ⟨(some 48), none, .ext 1 (.tmp 42)⟩, ⟨(some 15), none, .alloc [.nils, .nils]⟩, ⟨none, none, .store 2 (.tmp 15) (.tmp 47)⟩, ⟨(some 16), none, .mov (.tmp 48)⟩]
def pcashbooklaw18_ChartGrowsr6 : List GOp := [⟨(some 49), none, .build [.nils, .nils] []⟩, ⟨(some 17), none, .alloc [.nils, .nils]⟩, ⟨none, none, .store 2 (.tmp 17) (.tmp 49)⟩]
def pcashbooklaw18_ChartGrowsr7 : List GOp := [⟨(some 50), none, .load true 2 (.tmp 5)⟩, ⟨(some 51), none, .call 0 0 (.cst (.fn 16)) [(.tmp 50)] [] []⟩, ⟨(some 52), none, .load true 2 (.tmp 5)⟩, ⟨(some 53), none, .call 0 0 (.cst (.fn 17)) [(.tmp 52)] [] []⟩, ⟨(some 54), none, .bin true .neq (.tmp 51) (.tmp 53)⟩, ⟨(some 55), none, .mov (.tmp 54)⟩, ⟨(some 56), (some (55, false)), .call 0 0 (.cst (.fn 18)) [] [] []⟩, ⟨(some 57), (some (55, false)), .un .not (.tmp 56)⟩, ⟨(some 58), none, .pick (.tmp 55) (.cst (.bool true)) (.tmp 57)⟩]
def pcashbooklaw18_ChartGrowsr8 : List GOp := [⟨(some 10), none, .mov (.cst (.bool false))⟩]
def pcashbooklaw18_ChartGrowsr9 : List GOp := [⟨(some 59), none, .load true 2 (.tmp 5)⟩, ⟨(some 60), none, .call 0 0 (.cst (.fn 17)) [(.tmp 59)] [] []⟩, ⟨(some 61), none, .un .not (.tmp 60)⟩]
def pcashbooklaw18_ChartGrowsr10 : List GOp := [⟨(some 62), none, .mov (.tmp 12)⟩, ⟨(some 63), none, .bin false .eql (.tmp 62) (.cst (.int .i64 1))⟩, ⟨(some 64), none, .mov (.tmp 63)⟩, ⟨(some 65), (some (64, true)), .mov (.tmp 14)⟩, ⟨(some 66), (some (64, true)), .bin false .eql (.tmp 65) (.cst (.int .i64 1))⟩, ⟨(some 67), none, .pick (.tmp 64) (.tmp 66) (.cst (.bool false))⟩, ⟨(some 68), none, .mov (.tmp 67)⟩, ⟨(some 69), (some (68, true)), .mov (.tmp 16)⟩, ⟨(some 70), (some (68, true)), .bin false .eql (.tmp 69) (.cst (.int .i64 1))⟩, ⟨(some 71), none, .pick (.tmp 68) (.tmp 70) (.cst (.bool false))⟩, ⟨(some 72), none, .mov (.tmp 71)⟩, ⟨(some 73), (some (72, true)), .load true 2 (.tmp 11)⟩, ⟨(some 74), (some (72, true)), .load true 2 (.tmp 17)⟩, ⟨(some 75), (some (72, true)), .call 0 0 (.cst (.fn 19)) [(.tmp 73), (.tmp 74)] [] []⟩, ⟨(some 76), none, .pick (.tmp 72) (.tmp 75) (.cst (.bool false))⟩, ⟨(some 77), none, .mov (.tmp 76)⟩, ⟨(some 78), (some (77, true)), .load true 2 (.tmp 13)⟩, ⟨(some 79), (some (77, true)), .load true 2 (.tmp 17)⟩, ⟨(some 80), (some (77, true)), .call 0 0 (.cst (.fn 19)) [(.tmp 78), (.tmp 79)] [] []⟩, ⟨(some 81), none, .pick (.tmp 77) (.tmp 80) (.cst (.bool false))⟩, ⟨(some 82), none, .mov (.tmp 81)⟩, ⟨(some 83), (some (82, true)), .load true 2 (.tmp 15)⟩, ⟨(some 84), (some (82, true)), .load true 2 (.tmp 17)⟩, ⟨(some 85), (some (82, true)), .call 0 0 (.cst (.fn 19)) [(.tmp 83), (.tmp 84)] [] []⟩, ⟨(some 86), none, .pick (.tmp 82) (.tmp 85) (.cst (.bool false))⟩, ⟨(some 10), none, .mov (.tmp 86)⟩]
def pcashbooklaw18_ChartGrowsr11 : List GOp := [⟨(some 18), none, .mov (.cst (.int .i64 0))⟩]
def pcashbooklaw18_ChartGrowsr12 : List GOp := [⟨(some 88), none, .load true 3 (.tmp 6)⟩, ⟨(some 89), none, .call 0 0 (.cst (.fn 20)) [(.tmp 88)] [] []⟩, ⟨(some 90), none, .un .not (.tmp 89)⟩, ⟨(some 87), none, .mov (.tmp 90)⟩]
def pcashbooklaw18_ChartGrowsr13 : List GOp := [⟨(some 18), none, .mov (.cst (.int .i64 1))⟩]
def pcashbooklaw18_ChartGrowsr14 : List GOp := [⟨(some 92), none, .fld 0 (.tmp 5)⟩, ⟨(some 93), none, .load false 1 (.tmp 92)⟩, ⟨(some 94), none, .fld 0 (.tmp 6)⟩, ⟨(some 95), none, .load false 1 (.tmp 94)⟩, ⟨(some 96), none, .call 0 0 (.cst (.fn 21)) [(.tmp 93), (.tmp 95)] [] []⟩, ⟨(some 97), none, .bin false .geq (.tmp 96) (.cst (.int .i64 0))⟩, ⟨(some 91), none, .mov (.tmp 97)⟩]
def pcashbooklaw18_ChartGrowsr15 : List GOp := [⟨(some 18), none, .mov (.cst (.int .i64 26))⟩]
def pcashbooklaw18_ChartGrowsr16 : List GOp := [⟨(some 99), none, .fld 0 (.tmp 5)⟩, ⟨(some 100), none, .load false 1 (.tmp 99)⟩, ⟨(some 101), none, .len false (.tmp 100)⟩, ⟨(some 102), none, .bin false .eql (.tmp 101) (.cst (.int .i64 100))⟩, ⟨(some 98), none, .mov (.tmp 102)⟩]
def pcashbooklaw18_ChartGrowsr17 : List GOp := [⟨(some 18), none, .mov (.cst (.int .i64 6))⟩]
def pcashbooklaw18_ChartGrowsr18 : List GOp := [⟨(some 103), none, .mov (.tmp 12)⟩, ⟨(some 104), none, .mov (.tmp 18)⟩, ⟨(some 105), none, .bin false .neq (.tmp 103) (.tmp 104)⟩, ⟨(some 106), none, .mov (.tmp 105)⟩, ⟨(some 107), (some (106, false)), .mov (.tmp 18)⟩, ⟨(some 108), (some (106, false)), .bin false .eql (.tmp 107) (.cst (.int .i64 0))⟩, ⟨(some 109), (some (106, false)), .mov (.tmp 108)⟩, ⟨(some 110), (some (109, true)), .load true 2 (.tmp 11)⟩, ⟨(some 111), (some (109, true)), .load true 2 (.tmp 5)⟩, ⟨(some 112), (some (109, true)), .load true 3 (.tmp 6)⟩, ⟨(some 113), (some (109, true)), .call 0 0 (.cst (.fn 22)) [(.tmp 111), (.tmp 112)] [] []⟩, ⟨(some 114), (some (109, true)), .call 0 0 (.cst (.fn 19)) [(.tmp 110), (.tmp 113)] [] []⟩, ⟨(some 115), (some (109, true)), .un .not (.tmp 114)⟩, ⟨(some 116), (some (106, false)), .pick (.tmp 109) (.tmp 115) (.cst (.bool false))⟩, ⟨(some 117), none, .pick (.tmp 106) (.cst (.bool true)) (.tmp 116)⟩, ⟨(some 118), none, .mov (.tmp 117)⟩, ⟨(some 119), (some (118, false)), .mov (.tmp 18)⟩, ⟨(some 120), (some (118, false)), .bin false .neq (.tmp 119) (.cst (.int .i64 0))⟩, ⟨(some 121), (some (118, false)), .mov (.tmp 120)⟩, ⟨(some 122), (some (121, true)), .load true 2 (.tmp 11)⟩, ⟨(some 123), (some (121, true)), .load true 2 (.tmp 17)⟩, ⟨(some 124), (some (121, true)), .call 0 0 (.cst (.fn 19)) [(.tmp 122), (.tmp 123)] [] []⟩, ⟨(some 125), (some (121, true)), .un .not (.tmp 124)⟩, ⟨(some 126), (some (118, false)), .pick (.tmp 121) (.tmp 125) (.cst (.bool false))⟩, ⟨(some 127), none, .pick (.tmp 118) (.cst (.bool true)) (.tmp 126)⟩]
def pcashbooklaw18_ChartGrowsr19 : List GOp := [⟨(some 10), none, .mov (.cst (.bool false))⟩]
def pcashbooklaw18_ChartGrowsr20 : List GOp := [⟨(some 128), none, .fld 7 (.tmp 7)⟩, ⟨none, none, .store 1 (.tmp 128) (.cst (.int .i32 50000))⟩]
def pcashbooklaw18_ChartGrowsr21 : List GOp := [⟨(some 18), none, .mov (.cst (.int .i64 0))⟩]
def pcashbooklaw18_ChartGrowsr22 : List GOp := [⟨(some 130), none, .load true 8 (.tmp 7)⟩, ⟨(some 131), none, .call 0 0 (.cst (.fn 23)) [(.tmp 130)] [] []⟩, ⟨(some 132), none, .un .not (.tmp 131)⟩, ⟨(some 133), none, .mov (.tmp 132)⟩, ⟨(some 134), (some (133, false)), .load true 8 (.tmp 7)⟩, ⟨(some 135), (some (133, false)), .call 0 0 (.cst (.fn 24)) [(.tmp 134)] [] []⟩, ⟨(some 136), (some (133, false)), .un .not (.tmp 135)⟩, ⟨(some 137), none, .pick (.tmp 133) (.cst (.bool true)) (.tmp 136)⟩, ⟨(some 129), none, .mov (.tmp 137)⟩]
def pcashbooklaw18_ChartGrowsr23 : List GOp := [⟨(some 18), none, .mov (.cst (.int .i64 1))⟩]
def pcashbooklaw18_ChartGrowsr24 : List GOp := [⟨(some 139), none, .fld 3 (.tmp 7)⟩, ⟨(some 140), none, .load false 1 (.tmp 139)⟩, ⟨(some 141), none, .bin false .gtr (.tmp 140) (.cst (.int .i64 0))⟩, ⟨(some 142), none, .mov (.tmp 141)⟩, ⟨(some 143), (some (142, true)), .fld 0 (.tmp 5)⟩, ⟨(some 144), (some (142, true)), .load false 1 (.tmp 143)⟩, ⟨(some 145), (some (142, true)), .fld 3 (.tmp 7)⟩, ⟨(some 146), (some (142, true)), .load false 1 (.tmp 145)⟩, ⟨(some 147), (some (142, true)), .call 0 0 (.cst (.fn 21)) [(.tmp 144), (.tmp 146)] [] []⟩, ⟨(some 148), (some (142, true)), .bin false .lss (.tmp 147) (.cst (.int .i64 0))⟩, ⟨(some 149), none, .pick (.tmp 142) (.tmp 148) (.cst (.bool false))⟩, ⟨(some 138), none, .mov (.tmp 149)⟩]
def pcashbooklaw18_ChartGrowsr25 : List GOp := [⟨(some 18), none, .mov (.cst (.int .i64 8))⟩]
def pcashbooklaw18_ChartGrowsr26 : List GOp := [⟨(some 151), none, .fld 1 (.tmp 5)⟩, ⟨(some 152), none, .load false 1 (.tmp 151)⟩, ⟨(some 153), none, .fld 0 (.tmp 7)⟩, ⟨(some 154), none, .load false 1 (.tmp 153)⟩, ⟨(some 155), none, .call 0 0 (.cst (.fn 25)) [(.tmp 152), (.tmp 154)] [] []⟩, ⟨(some 156), none, .bin false .geq (.tmp 155) (.cst (.int .i64 0))⟩, ⟨(some 150), none, .mov (.tmp 156)⟩]
def pcashbooklaw18_ChartGrowsr27 : List GOp := [⟨(some 18), none, .mov (.cst (.int .i64 26))⟩]
def pcashbooklaw18_ChartGrowsr28 : List GOp := [⟨(some 158), none, .fld 1 (.tmp 5)⟩, ⟨(some 159), none, .load false 1 (.tmp 158)⟩, ⟨(some 160), none, .len false (.tmp 159)⟩, ⟨(some 161), none, .bin false .eql (.tmp 160) (.cst (.int .i64 200))⟩, ⟨(some 157), none, .mov (.tmp 161)⟩]
def pcashbooklaw18_ChartGrowsr29 : List GOp := [⟨(some 18), none, .mov (.cst (.int .i64 6))⟩]
def pcashbooklaw18_ChartGrowsr30 : List GOp := [⟨(some 162), none, .mov (.tmp 14)⟩, ⟨(some 163), none, .mov (.tmp 18)⟩, ⟨(some 164), none, .bin false .neq (.tmp 162) (.tmp 163)⟩, ⟨(some 165), none, .mov (.tmp 164)⟩, ⟨(some 166), (some (165, false)), .mov (.tmp 18)⟩, ⟨(some 167), (some (165, false)), .bin false .eql (.tmp 166) (.cst (.int .i64 0))⟩, ⟨(some 168), (some (165, false)), .mov (.tmp 167)⟩, ⟨(some 169), (some (168, true)), .load true 2 (.tmp 13)⟩, ⟨(some 170), (some (168, true)), .load true 2 (.tmp 5)⟩, ⟨(some 171), (some (168, true)), .load true 8 (.tmp 7)⟩, ⟨(some 172), (some (168, true)), .call 0 0 (.cst (.fn 26)) [(.tmp 170), (.tmp 171)] [] []⟩, ⟨(some 173), (some (168, true)), .call 0 0 (.cst (.fn 19)) [(.tmp 169), (.tmp 172)] [] []⟩, ⟨(some 174), (some (168, true)), .un .not (.tmp 173)⟩, ⟨(some 175), (some (165, false)), .pick (.tmp 168) (.tmp 174) (.cst (.bool false))⟩, ⟨(some 176), none, .pick (.tmp 165) (.cst (.bool true)) (.tmp 175)⟩, ⟨(some 177), none, .mov (.tmp 176)⟩, ⟨(some 178), (some (177, false)), .mov (.tmp 18)⟩, ⟨(some 179), (some (177, false)), .bin false .neq (.tmp 178) (.cst (.int .i64 0))⟩, ⟨(some 180), (some (177, false)), .mov (.tmp 179)⟩, ⟨(some 181), (some (180, true)), .load true 2 (.tmp 13)⟩, ⟨(some 182), (some (180, true)), .load true 2 (.tmp 17)⟩, ⟨(some 183), (some (180, true)), .call 0 0 (.cst (.fn 19)) [(.tmp 181), (.tmp 182)] [] []⟩, ⟨(some 184), (some (180, true)), .un .not (.tmp 183)⟩, ⟨(some 185), (some (177, false)), .pick (.tmp 180) (.tmp 184) (.cst (.bool false))⟩, ⟨(some 186), none, .pick (.tmp 177) (.cst (.bool true)) (.tmp 185)⟩]
def pcashbooklaw18_ChartGrowsr31 : List GOp := [⟨(some 10), none, .mov (.cst (.bool false))⟩]
def pcashbooklaw18_ChartGrowsr32 : List GOp := [⟨(some 187), none, .fld 1 (.tmp 5)⟩, ⟨(some 188), none, .load false 1 (.tmp 187)⟩, ⟨(some 189), none, .mov (.tmp 3)⟩, ⟨(some 190), none, .call 0 0 (.cst (.fn 25)) [(.tmp 188), (.tmp 189)] [] []⟩, ⟨(some 19), none, .mov (.tmp 190)⟩]
def pcashbooklaw18_ChartGrowsr33 : List GOp := [⟨(some 192), none, .mov (.tmp 19)⟩, ⟨(some 193), none, .bin false .lss (.tmp 192) (.cst (.int .i64 0))⟩, ⟨(some 191), none, .mov (.tmp 193)⟩]
def pcashbooklaw18_ChartGrowsr34 : List GOp := [⟨(some 194), none, .mov (.tmp 16)⟩, ⟨(some 195), none, .bin false .eql (.tmp 194) (.cst (.int .i64 8))⟩, ⟨(some 196), none, .mov (.tmp 195)⟩, ⟨(some 197), (some (196, true)), .load true 2 (.tmp 15)⟩, ⟨(some 198), (some (196, true)), .load true 2 (.tmp 17)⟩, ⟨(some 199), (some (196, true)), .call 0 0 (.cst (.fn 19)) [(.tmp 197), (.tmp 198)] [] []⟩, ⟨(some 200), none, .pick (.tmp 196) (.tmp 199) (.cst (.bool false))⟩, ⟨(some 10), none, .mov (.tmp 200)⟩]
def pcashbooklaw18_ChartGrowsr35 : List GOp := [⟨(some 202), none, .fld 1 (.tmp 5)⟩, ⟨(some 203), none, .load false 1 (.tmp 202)⟩, ⟨(some 204), none, .mov (.tmp 19)⟩, ⟨(some 205), none, .idx 8 (.tmp 203) (.tmp 204)⟩, ⟨(some 206), none, .fld 7 (.tmp 205)⟩, ⟨(some 207), none, .load false 1 (.tmp 206)⟩, ⟨(some 208), none, .bin false .neq (.tmp 207) (.cst (.int .i32 50000))⟩, ⟨(some 201), none, .mov (.tmp 208)⟩]
def pcashbooklaw18_ChartGrowsr36 : List GOp := [⟨(some 209), none, .mov (.tmp 16)⟩, ⟨(some 210), none, .bin false .eql (.tmp 209) (.cst (.int .i64 16))⟩, ⟨(some 211), none, .mov (.tmp 210)⟩, ⟨(some 212), (some (211, true)), .load true 2 (.tmp 15)⟩, ⟨(some 213), (some (211, true)), .load true 2 (.tmp 17)⟩, ⟨(some 214), (some (211, true)), .call 0 0 (.cst (.fn 19)) [(.tmp 212), (.tmp 213)] [] []⟩, ⟨(some 215), none, .pick (.tmp 211) (.tmp 214) (.cst (.bool false))⟩, ⟨(some 10), none, .mov (.tmp 215)⟩]
def pcashbooklaw18_ChartGrowsr37 : List GOp := [⟨(some 217), none, .mov (.tmp 4)⟩, ⟨(some 218), none, .call 0 0 (.cst (.fn 27)) [(.tmp 217)] [] []⟩, ⟨(some 219), none, .un .not (.tmp 218)⟩, ⟨(some 220), none, .mov (.tmp 219)⟩, ⟨(some 221), (some (220, false)), .mov (.tmp 4)⟩, ⟨(some 222), (some (220, false)), .fld 1 (.tmp 5)⟩, ⟨(some 223), (some (220, false)), .load false 1 (.tmp 222)⟩, ⟨(some 224), (some (220, false)), .mov (.tmp 19)⟩, ⟨(some 225), (some (220, false)), .idx 8 (.tmp 223) (.tmp 224)⟩, ⟨(some 226), (some (220, false)), .fld 6 (.tmp 225)⟩, ⟨(some 227), (some (220, false)), .load false 1 (.tmp 226)⟩, ⟨(some 228), (some (220, false)), .bin false .lss (.tmp 221) (.tmp 227)⟩, ⟨(some 229), none, .pick (.tmp 220) (.cst (.bool true)) (.tmp 228)⟩, ⟨(some 216), none, .mov (.tmp 229)⟩]
def pcashbooklaw18_ChartGrowsr38 : List GOp := [⟨(some 230), none, .mov (.tmp 16)⟩, ⟨(some 231), none, .bin false .eql (.tmp 230) (.cst (.int .i64 11))⟩, ⟨(some 232), none, .mov (.tmp 231)⟩, ⟨(some 233), (some (232, true)), .load true 2 (.tmp 15)⟩, ⟨(some 234), (some (232, true)), .load true 2 (.tmp 17)⟩, ⟨(some 235), (some (232, true)), .call 0 0 (.cst (.fn 19)) [(.tmp 233), (.tmp 234)] [] []⟩, ⟨(some 236), none, .pick (.tmp 232) (.tmp 235) (.cst (.bool false))⟩, ⟨(some 10), none, .mov (.tmp 236)⟩]
def pcashbooklaw18_ChartGrowsr39 : List GOp := [⟨(some 237), none, .mov (.tmp 16)⟩, ⟨(some 238), none, .bin false .eql (.tmp 237) (.cst (.int .i64 0))⟩, ⟨(some 239), none, .mov (.tmp 238)⟩, ⟨(some 240), (some (239, true)), .load true 2 (.tmp 15)⟩, ⟨(some 241), (some (239, true)), .load true 2 (.tmp 5)⟩, ⟨(some 242), (some (239, true)), .mov (.tmp 19)⟩, ⟨(some 243), (some (239, true)), .mov (.tmp 4)⟩, ⟨(some 244), (some (239, true)), .call 0 0 (.cst (.fn 28)) [(.tmp 241), (.tmp 242), (.tmp 243)] [] []⟩, ⟨(some 245), (some (239, true)), .call 0 0 (.cst (.fn 19)) [(.tmp 240), (.tmp 244)] [] []⟩, ⟨(some 246), none, .pick (.tmp 239) (.tmp 245) (.cst (.bool false))⟩, ⟨(some 10), none, .mov (.tmp 246)⟩]
def pcashbooklaw18_ChartGrowsb : AC := (.seq (.ops pcashbooklaw18_ChartGrowsr0) (.seq (.ops pcashbooklaw18_ChartGrowsr1) (.seq (.ops pcashbooklaw18_ChartGrowsr2) (.seq (.ops pcashbooklaw18_ChartGrowsr3) (.seq (.ops pcashbooklaw18_ChartGrowsr4) (.seq (.ops pcashbooklaw18_ChartGrowsr5) (.seq (.ops pcashbooklaw18_ChartGrowsr6) (.seq (.seq (.draw [] pcashbooklaw18_ChartGrowsr7) (.cond (.tmp 58) (.seq (.ops pcashbooklaw18_ChartGrowsr8) (.keep [] [(10, false)] [] [.loc 11 0, .loc 13 0, .loc 15 0, .loc 17 0, .loc 5 0, .loc 6 0, .loc 7 0] [] .ret)) .skip)) (.seq (.seq (.ops pcashbooklaw18_ChartGrowsr9) (.cond (.tmp 61) (.seq (.ops pcashbooklaw18_ChartGrowsr10) (.keep [] [(10, false)] [] [.loc 11 0, .loc 13 0, .loc 15 0, .loc 17 0, .loc 5 0, .loc 6 0, .loc 7 0] [] .ret)) .skip)) (.seq (.ops pcashbooklaw18_ChartGrowsr11) (.seq (.pass 0 (.seq (.ops pcashbooklaw18_ChartGrowsr12) (.cond (.tmp 87) (.ops pcashbooklaw18_ChartGrowsr13) (.seq (.ops pcashbooklaw18_ChartGrowsr14) (.cond (.tmp 91) (.ops pcashbooklaw18_ChartGrowsr15) (.seq (.ops pcashbooklaw18_ChartGrowsr16) (.cond (.tmp 98) (.ops pcashbooklaw18_ChartGrowsr17) .skip))))))) (.seq (.seq (.keep [] [(3, false), (4, false), (5, false), (6, false), (7, false), (11, false), (12, false), (13, false), (14, false), (15, false), (16, false), (17, false), (18, false)] [(.loc 11 0, false), (.loc 13 0, false), (.loc 15 0, false), (.loc 17 0, false), (.loc 5 0, false), (.loc 6 0, false), (.loc 7 0, false)] [] [] (.draw [] pcashbooklaw18_ChartGrowsr18)) (.cond (.tmp 127) (.seq (.ops pcashbooklaw18_ChartGrowsr19) (.keep [] [(10, false)] [] [.loc 11 0, .loc 13 0, .loc 15 0, .loc 17 0, .loc 5 0, .loc 6 0, .loc 7 0] [] .ret)) .skip)) (.seq (.ops pcashbooklaw18_ChartGrowsr20) (.seq (.ops pcashbooklaw18_ChartGrowsr21) (.seq (.pass 1 (.seq (.ops pcashbooklaw18_ChartGrowsr22) (.cond (.tmp 129) (.ops pcashbooklaw18_ChartGrowsr23) (.seq (.ops pcashbooklaw18_ChartGrowsr24) (.cond (.tmp 138) (.ops pcashbooklaw18_ChartGrowsr25) (.seq (.ops pcashbooklaw18_ChartGrowsr26) (.cond (.tmp 150) (.ops pcashbooklaw18_ChartGrowsr27) (.seq (.ops pcashbooklaw18_ChartGrowsr28) (.cond (.tmp 157) (.ops pcashbooklaw18_ChartGrowsr29) .skip))))))))) (.seq (.seq (.keep [] [(3, false), (4, false), (5, false), (7, false), (13, false), (14, false), (15, false), (16, false), (17, false), (18, false)] [(.loc 13 0, false), (.loc 15 0, false), (.loc 17 0, false), (.loc 5 0, false), (.loc 7 0, false)] [.loc 11 0, .loc 6 0] [] (.draw [] pcashbooklaw18_ChartGrowsr30)) (.cond (.tmp 186) (.seq (.ops pcashbooklaw18_ChartGrowsr31) (.keep [] [(10, false)] [] [.loc 11 0, .loc 13 0, .loc 15 0, .loc 17 0, .loc 5 0, .loc 6 0, .loc 7 0] [] .ret)) .skip)) (.seq (.ops pcashbooklaw18_ChartGrowsr32) (.seq (.pass 2 (.seq (.ops pcashbooklaw18_ChartGrowsr33) (.cond (.tmp 191) (.seq (.ops pcashbooklaw18_ChartGrowsr34) (.keep [] [(10, false)] [] [.loc 11 0, .loc 13 0, .loc 15 0, .loc 17 0, .loc 5 0, .loc 6 0, .loc 7 0] [] .ret)) (.seq (.ops pcashbooklaw18_ChartGrowsr35) (.cond (.tmp 201) (.seq (.ops pcashbooklaw18_ChartGrowsr36) (.keep [] [(10, false)] [] [.loc 11 0, .loc 13 0, .loc 15 0, .loc 17 0, .loc 5 0, .loc 6 0, .loc 7 0] [] .ret)) (.seq (.ops pcashbooklaw18_ChartGrowsr37) (.cond (.tmp 216) (.seq (.ops pcashbooklaw18_ChartGrowsr38) (.keep [] [(10, false)] [] [.loc 11 0, .loc 13 0, .loc 15 0, .loc 17 0, .loc 5 0, .loc 6 0, .loc 7 0] [] .ret)) .skip))))))) (.seq (.draw [] pcashbooklaw18_ChartGrowsr39) (.keep [] [(10, false)] [] [.loc 11 0, .loc 13 0, .loc 15 0, .loc 17 0, .loc 5 0, .loc 6 0, .loc 7 0] [] .ret))))))))))))))))))))
def pcashbooklaw18_ChartGrows : Fd := ⟨5, [.tmp 10], [], pcashbooklaw18_ChartGrowsb⟩
theorem pcashbooklaw18_ChartGrows_ag : agreeF Try.prog Try.f3 pcashbooklaw18_ChartGrows = true := by kernel_rfl
theorem cashbooklaw18_ChartGrows_ok {c1 : T_api_Chart} {x2 : T_api_Customer} {r3 : T_api_Record} {a4 : Int} {day5 : Int} {r : Bool} (h : cashbooklaw18_ChartGrows c1 x2 r3 a4 day5 = some r) : Contract Try.prog 3 [.pv (T_api_Chart.pv c1), .pv (T_api_Customer.pv x2), .pv (T_api_Record.pv r3), .pv (.int .i64 a4), .pv (.int .i32 day5)] [] ⟨.pv (.bool r), [], []⟩ := by
  refine contract_fin hm Try.func3 pcashbooklaw18_ChartGrows_ag (by kernel_rfl) ?_
  unfold cashbooklaw18_ChartGrows at h
  refine W.seqOps (RunR.all (by kernel_rfl)) ?_
  replace h := bindS h
  obtain ⟨x6, hx6, h⟩ := h
  refine W.seqOps (RunR.stat 1 (by kernel_rfl) (RunR.cons (tab_cons (on := true) (fun _ => cashbooklaw18_few_ok hx6) tab_nil) (Step.call0 (g := 12) (caps := []) (v := .pv (T_api_Chart.pv x6)) (by kernel_rfl) (by kernel_rfl) (by kernel_rfl) (tab_hit (by kernel_rfl)) (by kernel_rfl)) (RunR.all (by kernel_rfl)))) ?_
  replace h := bindS h
  obtain ⟨x7, hx7, h⟩ := h
  refine W.seqOps (RunR.stat 6 (by kernel_rfl) (RunR.dyn (Step.slcS (s := x2.f_Name) (m := x7) (a := 0) (b := (if 40 < (x2.f_Name.length : Int) then 40 else (x2.f_Name.length : Int))) (by kernel_rfl) (Bd.none rfl) (Bd.some (k := .i64) (by kernel_rfl)) hx7) (RunR.all (by kernel_rfl)))) ?_
  replace h := bindS h
  obtain ⟨x8, hx8, h⟩ := h
  refine W.seqOps (RunR.stat 2 (by kernel_rfl) (RunR.cons (tab_cons (on := true) (fun _ => chart_Join_ok hx8) tab_nil) (Step.call0 (g := 13) (caps := []) (v := .tup [.pv (T_api_Chart.pv x8.1), .pv (.int .i64 x8.2)]) (by kernel_rfl) (by kernel_rfl) (by kernel_rfl) (tab_hit (by kernel_rfl)) (by kernel_rfl)) (RunR.all (by kernel_rfl)))) ?_
  replace h := bindS h
  obtain ⟨x9, hx9, h⟩ := h
  refine W.seqOps (RunR.stat 2 (by kernel_rfl) (RunR.cons (tab_cons (on := true) (fun _ => chart_Open_ok hx9) tab_nil) (Step.call0 (g := 14) (caps := []) (v := .tup [.pv (T_api_Chart.pv x9.1), .pv (.int .i64 x9.2)]) (by kernel_rfl) (by kernel_rfl) (by kernel_rfl) (tab_hit (by kernel_rfl)) (by kernel_rfl)) (RunR.all (by kernel_rfl)))) ?_
  replace h := bindS h
  obtain ⟨x10, hx10, h⟩ := h
  refine W.seqOps (RunR.stat 3 (by kernel_rfl) (RunR.cons (tab_cons (on := true) (fun _ => chart_Close_ok hx10) tab_nil) (Step.call0 (g := 15) (caps := []) (v := .tup [.pv (T_api_Chart.pv x10.1), .pv (.int .i64 x10.2)]) (by kernel_rfl) (by kernel_rfl) (by kernel_rfl) (tab_hit (by kernel_rfl)) (by kernel_rfl)) (RunR.all (by kernel_rfl)))) ?_
  refine W.seqOps (RunR.all (by kernel_rfl)) ?_
  refine W.assoc ?_
  replace h := bindS h
  obtain ⟨x11, hx11, h⟩ := h
  replace h := bindS h
  obtain ⟨x12, hx12, h⟩ := h
  replace h := bindS h
  obtain ⟨c13, hc13, h⟩ := h
  replace h := bindS h
  obtain ⟨x14, hx14, h⟩ := h
  refine W.seqDraw (tab_cons (on := true) (fun _ => chart_Right_ok hx11) (tab_cons (on := true) (fun _ => cashbookref18_Right_ok hx12) (tab_cons (on := (!c13)) (fun hg => cashbooklaw18_alive_ok (gdO_at hg hx14)) tab_nil))) (Run.stat 1 (by kernel_rfl) (Run.dyn (Step.call0 (g := 16) (caps := []) (v := .pv (.bool x11)) (by kernel_rfl) (by kernel_rfl) (by kernel_rfl) (tab_hit (by kernel_rfl)) (by kernel_rfl)) (Run.stat 1 (by kernel_rfl) (Run.dyn (Step.call0 (g := 17) (caps := []) (v := .pv (.bool x12)) (by kernel_rfl) (by kernel_rfl) (by kernel_rfl) (tab_next rfl (tab_hit (by kernel_rfl))) (by kernel_rfl)) (Run.stat 1 (by kernel_rfl) (Run.dyn (Step.name (f := eBool) (e := !(x11 == x12)) (c := c13) (by kernel_rfl) hc13) (Run.dyn (Step.gdG (!c13) (by kernel_rfl) (by
        cases c13
        · exact .inr ⟨by kernel_rfl, by kernel_rfl, Step.call0 (g := 18) (caps := []) (v := .pv (.bool x14)) (by kernel_rfl) (by kernel_rfl) (by kernel_rfl) (tab_next rfl (tab_next rfl (tab_hit (by kernel_rfl)))) (by kernel_rfl)⟩
        · exact .inl ⟨by kernel_rfl, by kernel_rfl⟩)) (Run.puts 2 [(58, .pv (.bool (c13 || (!x14)))), (57, (bif !c13 then (.pv (.bool (!x14))) else (.tup [])))] (by cases c13 <;> kernel_rfl) ((Run.nil)))))))))) ?_
  refine W.seqCond (t := (c13 || (!x14))) (by kernel_rfl) h (fun hc h' => ?_) (fun hc h' => ?_)
  · replace h := h'
    refine W.assoc ?_
    refine W.seqOps (RunR.all (by kernel_rfl)) ?_
    refine W.seqKeep rfl ?_
    cases h
    exact W.seqRet ((fin_ret (by kernel_rfl)))
  · replace h := h'
    refine W.seqSkip ?_
    refine W.assoc ?_
    replace h := bindS h
    obtain ⟨x15, hx15, h⟩ := h
    refine W.seqOps (RunR.stat 1 (by kernel_rfl) (RunR.cons (tab_cons (on := true) (fun _ => cashbookref18_Right_ok hx15) tab_nil) (Step.call0 (g := 17) (caps := []) (v := .pv (.bool x15)) (by kernel_rfl) (by kernel_rfl) (by kernel_rfl) (tab_hit (by kernel_rfl)) (by kernel_rfl)) (RunR.all (by kernel_rfl)))) ?_
    refine W.seqCond (t := !x15) (by kernel_rfl) h (fun hc h' => ?_) (fun hc h' => ?_)
    · replace h := h'
      refine W.assoc ?_
      replace h := bindS h
      obtain ⟨c16, hc16, h⟩ := h
      replace h := bindS h
      obtain ⟨c17, hc17, h⟩ := h
      replace h := bindS h
      obtain ⟨c18, hc18, h⟩ := h
      replace h := bindS h
      obtain ⟨x19, hx19, h⟩ := h
      replace h := bindS h
      obtain ⟨c20, hc20, h⟩ := h
      replace h := bindS h
      obtain ⟨x21, hx21, h⟩ := h
      replace h := bindS h
      obtain ⟨c22, hc22, h⟩ := h
      replace h := bindS h
      obtain ⟨x23, hx23, h⟩ := h
      refine W.seqOps (RunR.stat 2 (by kernel_rfl) (RunR.dyn (Step.name (f := eBool) (e := (x8.2 == 1)) (c := c16) (by kernel_rfl) hc16) (RunR.puts 3 [(67, .pv (.bool (c16 && (x9.2 == 1)))), (66, (bif c16 then (.pv (.bool (x9.2 == 1))) else (.tup []))), (65, (bif c16 then (.pv (.int .i64 x9.2)) else (.tup [])))] (by cases c16 <;> kernel_rfl) (RunR.dyn (Step.name (f := eBool) (e := (c16 && (x9.2 == 1))) (c := c17) (by kernel_rfl) hc17) (RunR.puts 3 [(71, .pv (.bool (c17 && (x10.2 == 1)))), (70, (bif c17 then (.pv (.bool (x10.2 == 1))) else (.tup []))), (69, (bif c17 then (.pv (.int .i64 x10.2)) else (.tup [])))] (by cases c17 <;> kernel_rfl) (RunR.dyn (Step.name (f := eBool) (e := (c17 && (x10.2 == 1))) (c := c18) (by kernel_rfl) hc18) (RunR.puts 2 [(74, (bif c18 then (.agg [.nils, .nils]) else (.tup []))), (73, (bif c18 then (.pv (T_api_Chart.pv x8.1)) else (.tup [])))] (by cases c18 <;> kernel_rfl) (RunR.cons (tab_cons (on := c18) (fun hg => cashbookref18_Same_ok (gdO_at hg hx19)) tab_nil) (Step.gdG c18 (by kernel_rfl) (by
            cases c18
            · exact .inl ⟨by kernel_rfl, by kernel_rfl⟩
            · exact .inr ⟨by kernel_rfl, by kernel_rfl, Step.call0 (g := 19) (caps := []) (v := .pv (.bool x19)) (by kernel_rfl) (by kernel_rfl) (by kernel_rfl) (tab_hit (by kernel_rfl)) (by kernel_rfl)⟩)) (RunR.puts 1 [(76, .pv (.bool (c18 && x19)))] (by cases c18 <;> kernel_rfl) (RunR.dyn (Step.name (f := eBool) (e := (c18 && x19)) (c := c20) (by kernel_rfl) hc20) (RunR.puts 2 [(79, (bif c20 then (.agg [.nils, .nils]) else (.tup []))), (78, (bif c20 then (.pv (T_api_Chart.pv x9.1)) else (.tup [])))] (by cases c20 <;> kernel_rfl) (RunR.cons (tab_cons (on := c20) (fun hg => cashbookref18_Same_ok (gdO_at hg hx21)) tab_nil) (Step.gdG c20 (by kernel_rfl) (by
            cases c20
            · exact .inl ⟨by kernel_rfl, by kernel_rfl⟩
            · exact .inr ⟨by kernel_rfl, by kernel_rfl, Step.call0 (g := 19) (caps := []) (v := .pv (.bool x21)) (by kernel_rfl) (by kernel_rfl) (by kernel_rfl) (tab_hit (by kernel_rfl)) (by kernel_rfl)⟩)) (RunR.puts 1 [(81, .pv (.bool (c20 && x21)))] (by cases c20 <;> kernel_rfl) (RunR.dyn (Step.name (f := eBool) (e := (c20 && x21)) (c := c22) (by kernel_rfl) hc22) (RunR.puts 2 [(84, (bif c22 then (.agg [.nils, .nils]) else (.tup []))), (83, (bif c22 then (.pv (T_api_Chart.pv x10.1)) else (.tup [])))] (by cases c22 <;> kernel_rfl) (RunR.cons (tab_cons (on := c22) (fun hg => cashbookref18_Same_ok (gdO_at hg hx23)) tab_nil) (Step.gdG c22 (by kernel_rfl) (by
            cases c22
            · exact .inl ⟨by kernel_rfl, by kernel_rfl⟩
            · exact .inr ⟨by kernel_rfl, by kernel_rfl, Step.call0 (g := 19) (caps := []) (v := .pv (.bool x23)) (by kernel_rfl) (by kernel_rfl) (by kernel_rfl) (tab_hit (by kernel_rfl)) (by kernel_rfl)⟩)) (RunR.puts 1 [(86, .pv (.bool (c22 && x23)))] (by cases c22 <;> kernel_rfl) (RunR.all (by kernel_rfl))))))))))))))))))) ?_
      refine W.seqKeep rfl ?_
      cases h
      exact W.seqRet ((fin_ret (by kernel_rfl)))
    · replace h := h'
      refine W.seqSkip ?_
      refine W.seqOps (RunR.all (by kernel_rfl)) ?_
      refine W.seqPass ?_
      refine W.assoc ?_
      replace h := bindS h
      obtain ⟨x24, hx24, h⟩ := h
      refine W.seqOps (RunR.stat 1 (by kernel_rfl) (RunR.cons (tab_cons (on := true) (fun _ => cashbookref18_Customer_ok hx24) tab_nil) (Step.call0 (g := 20) (caps := []) (v := .pv (.bool x24)) (by kernel_rfl) (by kernel_rfl) (by kernel_rfl) (tab_hit (by kernel_rfl)) (by kernel_rfl)) (RunR.all (by kernel_rfl)))) ?_
      replace h := bindS h
      obtain ⟨j25, hj25, h⟩ := h
      refine W.join (j := j25) (fun p σ => σ.tidy [] [(3, false), (4, false), (5, false), (6, false), (7, false), (11, false), (12, false), (13, false), (14, false), (15, false), (16, false), (17, false), (18, false)] [(.loc 11 0, false), (.loc 13 0, false), (.loc 15 0, false), (.loc 17 0, false), (.loc 5 0, false), (.loc 6 0, false), (.loc 7 0, false)] [] [] = ⟨[(3, .pv (.int .i64 a4)), (4, .pv (.int .i32 day5)), (5, .ptr (.loc 5 0) 0), (6, .ptr (.loc 6 0) 0), (7, .ptr (.loc 7 0) 0), (11, .ptr (.loc 11 0) 0), (12, .pv (.int .i64 x8.2)), (13, .ptr (.loc 13 0) 0), (14, .pv (.int .i64 x9.2)), (15, .ptr (.loc 15 0) 0), (16, .pv (.int .i64 x10.2)), (17, .ptr (.loc 17 0) 0), (18, .pv (.int .i64 p))], [(.loc 11 0, .box [.pv (.slice (List.map T_api_Customer.pv x8.1.f_Customers)), .pv (.slice (List.map T_api_Record.pv x8.1.f_Records))]), (.loc 13 0, .box [.pv (.slice (List.map T_api_Customer.pv x9.1.f_Customers)), .pv (.slice (List.map T_api_Record.pv x9.1.f_Records))]), (.loc 15 0, .box [.pv (.slice (List.map T_api_Customer.pv x10.1.f_Customers)), .pv (.slice (List.map T_api_Record.pv x10.1.f_Records))]), (.loc 17 0, .box [.nils, .nils]), (.loc 5 0, .box [.pv (.slice (List.map T_api_Customer.pv x6.f_Customers)), .pv (.slice (List.map T_api_Record.pv x6.f_Records))]), (.loc 6 0, .box [.pv (.int .i64 x2.f_ID), .pv (.str x7), .pv (.int .i64 x2.f_Kind)]), (.loc 7 0, .box [.pv (.int .i64 r3.f_Acc), .pv (.int .i64 r3.f_Kind), .pv (.int .i64 r3.f_Cur), .pv (.int .i64 r3.f_Customer), .pv (.int .i64 r3.f_Product), .pv (.int .i64 r3.f_Partition), .pv (.int .i32 r3.f_From), .pv (.int .i32 r3.f_To)])]⟩) ?_ (fun σj25 hsj25 => ?_)
      · replace h := hj25
        refine W.condI (t := !x24) (by kernel_rfl) h (fun hc h' => ?_) (fun hc h' => ?_)
        · replace h := h'
          refine W.ops (RunR.all (by kernel_rfl)) ?_
          cases h
          exact (normw (by (show _ = _); kernel_rfl))
        · replace h := h'
          replace h := bindS h
          obtain ⟨x26, hx26, h⟩ := h
          refine W.seqOps (RunR.stat 4 (by kernel_rfl) (RunR.cons (tab_cons (on := true) (fun _ => cashbookref18_PlaceOf_ok hx26) tab_nil) (Step.call0 (g := 21) (caps := []) (v := .pv (.int .i64 x26)) (by kernel_rfl) (by kernel_rfl) (by kernel_rfl) (tab_hit (by kernel_rfl)) (by kernel_rfl)) (RunR.all (by kernel_rfl)))) ?_
          refine W.condI (t := decide (x26 ≥ 0)) (by kernel_rfl) h (fun hc h' => ?_) (fun hc h' => ?_)
          · replace h := h'
            refine W.ops (RunR.all (by kernel_rfl)) ?_
            cases h
            exact (normw (by (show _ = _); kernel_rfl))
          · replace h := h'
            refine W.seqOps (RunR.stat 2 (by kernel_rfl) (RunR.dyn (Step.lenT (f := T_api_Customer.pv) (l := x6.f_Customers) (by kernel_rfl)) (RunR.all (by kernel_rfl)))) ?_
            refine W.condI (t := ((x6.f_Customers.length : Int) == 100)) (by kernel_rfl) h (fun hc h' => ?_) (fun hc h' => ?_)
            · replace h := h'
              refine W.ops (RunR.all (by kernel_rfl)) ?_
              cases h
              exact (normw (by (show _ = _); kernel_rfl))
            · replace h := h'
              cases h
              exact W.skip ((normw (by (show _ = _); kernel_rfl)))
      · refine W.assoc ?_
        refine W.seqKeep hsj25 ?_
        replace h := bindS h
        obtain ⟨c28, hc28, h⟩ := h
        replace h := bindS h
        obtain ⟨c29, hc29, h⟩ := h
        replace h := bindS h
        obtain ⟨x30, hx30, h⟩ := h
        replace h := bindS h
        obtain ⟨x31, hx31, h⟩ := h
        replace h := bindS h
        obtain ⟨c32, hc32, h⟩ := h
        replace h := bindS h
        obtain ⟨c33, hc33, h⟩ := h
        replace h := bindS h
        obtain ⟨x34, hx34, h⟩ := h
        refine W.seqDraw (tab_cons (on := ((!c28) && c29)) (fun hg => cashbookref18_Join_ok (gdO_at hg hx30)) (tab_cons (on := ((!c28) && c29)) (fun hg => cashbookref18_Same_ok (gdO_at hg hx31)) (tab_cons (on := ((!c32) && c33)) (fun hg => cashbookref18_Same_ok (gdO_at hg hx34)) tab_nil))) (Run.stat 3 (by kernel_rfl) (Run.dyn (Step.name (f := eBool) (e := (x8.2 != j25)) (c := c28) (by kernel_rfl) hc28) (Run.puts 2 [(108, (bif !c28 then (.pv (.bool (j25 == 0))) else (.tup []))), (107, (bif !c28 then (.pv (.int .i64 j25)) else (.tup [])))] (by cases c28 <;> kernel_rfl) (Run.dyn (Step.gdG (!c28) (by kernel_rfl) (by
              cases c28
              · exact .inr ⟨by kernel_rfl, by kernel_rfl, Step.name (f := eBool) (e := (j25 == 0)) (c := c29) (by kernel_rfl) hc29⟩
              · exact .inl ⟨by kernel_rfl, by kernel_rfl⟩)) (Run.puts 3 [(112, (bif ((!c28) && c29) then (.pv (.agg [.int .i64 x2.f_ID, .str x7, .int .i64 x2.f_Kind])) else (.tup []))), (111, (bif ((!c28) && c29) then (.pv (T_api_Chart.pv x6)) else (.tup []))), (110, (bif ((!c28) && c29) then (.pv (T_api_Chart.pv x8.1)) else (.tup [])))] (by cases c28 <;> cases c29 <;> kernel_rfl) (Run.dyn (Step.gdG ((!c28) && c29) (by kernel_rfl) (by
              cases c28
              · cases c29
                · exact .inl ⟨by kernel_rfl, by kernel_rfl⟩
                · exact .inr ⟨by kernel_rfl, by kernel_rfl, Step.call0 (g := 22) (caps := []) (v := .pv (T_api_Chart.pv x30)) (by kernel_rfl) (by kernel_rfl) (by kernel_rfl) (tab_hit (by kernel_rfl)) (by kernel_rfl)⟩
              · cases c29
                · exact .inl ⟨by kernel_rfl, by kernel_rfl⟩
                · exact .inl ⟨by kernel_rfl, by kernel_rfl⟩)) (Run.dyn (Step.gdG ((!c28) && c29) (by kernel_rfl) (by
              cases c28
              · cases c29
                · exact .inl ⟨by kernel_rfl, by kernel_rfl⟩
                · exact .inr ⟨by kernel_rfl, by kernel_rfl, Step.call0 (g := 19) (caps := []) (v := .pv (.bool x31)) (by kernel_rfl) (by kernel_rfl) (by kernel_rfl) (tab_next rfl (tab_hit (by kernel_rfl))) (by kernel_rfl)⟩
              · cases c29
                · exact .inl ⟨by kernel_rfl, by kernel_rfl⟩
                · exact .inl ⟨by kernel_rfl, by kernel_rfl⟩)) (Run.puts 3 [(117, .pv (.bool (c28 || (c29 && (!x31))))), (116, (bif !c28 then (.pv (.bool (c29 && (!x31)))) else (.tup []))), (115, (bif ((!c28) && c29) then (.pv (.bool (!x31))) else (.tup [])))] (by cases c28 <;> cases c29 <;> kernel_rfl) (Run.dyn (Step.name (f := eBool) (e := (c28 || (c29 && (!x31)))) (c := c32) (by kernel_rfl) hc32) (Run.puts 2 [(120, (bif !c32 then (.pv (.bool (j25 != 0))) else (.tup []))), (119, (bif !c32 then (.pv (.int .i64 j25)) else (.tup [])))] (by cases c32 <;> kernel_rfl) (Run.dyn (Step.gdG (!c32) (by kernel_rfl) (by
              cases c32
              · exact .inr ⟨by kernel_rfl, by kernel_rfl, Step.name (f := eBool) (e := (j25 != 0)) (c := c33) (by kernel_rfl) hc33⟩
              · exact .inl ⟨by kernel_rfl, by kernel_rfl⟩)) (Run.puts 2 [(123, (bif ((!c32) && c33) then (.agg [.nils, .nils]) else (.tup []))), (122, (bif ((!c32) && c33) then (.pv (T_api_Chart.pv x8.1)) else (.tup [])))] (by cases c32 <;> cases c33 <;> kernel_rfl) (Run.dyn (Step.gdG ((!c32) && c33) (by kernel_rfl) (by
              cases c32
              · cases c33
                · exact .inl ⟨by kernel_rfl, by kernel_rfl⟩
                · exact .inr ⟨by kernel_rfl, by kernel_rfl, Step.call0 (g := 19) (caps := []) (v := .pv (.bool x34)) (by kernel_rfl) (by kernel_rfl) (by kernel_rfl) (tab_next rfl (tab_same (fun ho e => congrArg (fun r => (⟨.pv (.bool r), [], []⟩ : Res)) (Option.some.inj ((Eq.symm (gdO_at ho hx31)).trans (Eq.trans (by first | rfl | (simp only [List.cons.injEq, SV.pv.injEq, PV.int.injEq, PV.bool.injEq, PV.str.injEq, PV.slice.injEq, and_true, true_and, eInt_maps, eStr_maps, eBool_maps, T_api_Customer.pv_inj, T_api_Customer.pv_maps, T_api_Record.pv_inj, T_api_Record.pv_maps, T_api_Chart.pv_inj, T_api_Chart.pv_maps] at e; simp only [e])) (gdO_at rfl hx34))))) (tab_hit (by kernel_rfl)))) (by kernel_rfl)⟩
              · cases c33
                · exact .inl ⟨by kernel_rfl, by kernel_rfl⟩
                · exact .inl ⟨by kernel_rfl, by kernel_rfl⟩)) (Run.puts 3 [(127, .pv (.bool (c32 || (c33 && (!x34))))), (126, (bif !c32 then (.pv (.bool (c33 && (!x34)))) else (.tup []))), (125, (bif ((!c32) && c33) then (.pv (.bool (!x34))) else (.tup [])))] (by cases c32 <;> cases c33 <;> kernel_rfl) ((Run.nil)))))))))))))))) ?_
        refine W.seqCond (t := (c32 || (c33 && (!x34)))) (by kernel_rfl) h (fun hc h' => ?_) (fun hc h' => ?_)
        · replace h := h'
          refine W.assoc ?_
          refine W.seqOps (RunR.all (by kernel_rfl)) ?_
          refine W.seqKeep rfl ?_
          cases h
          exact W.seqRet ((fin_ret (by kernel_rfl)))
        · replace h := h'
          refine W.seqSkip ?_
          refine W.seqOps (RunR.all (by kernel_rfl)) ?_
          refine W.seqOps (RunR.all (by kernel_rfl)) ?_
          refine W.seqPass ?_
          refine W.assoc ?_
          replace h := bindS h
          obtain ⟨x35, hx35, h⟩ := h
          replace h := bindS h
          obtain ⟨c36, hc36, h⟩ := h
          replace h := bindS h
          obtain ⟨x37, hx37, h⟩ := h
          refine W.seqOps (RunR.stat 1 (by kernel_rfl) (RunR.cons (tab_cons (on := true) (fun _ => cashbookref18_Record_ok hx35) tab_nil) (Step.call0 (g := 23) (caps := []) (v := .pv (.bool x35)) (by kernel_rfl) (by kernel_rfl) (by kernel_rfl) (tab_hit (by kernel_rfl)) (by kernel_rfl)) (RunR.stat 1 (by kernel_rfl) (RunR.dyn (Step.name (f := eBool) (e := !x35) (c := c36) (by kernel_rfl) hc36) (RunR.puts 1 [(134, (bif !c36 then (.pv (.agg [.int .i64 r3.f_Acc, .int .i64 r3.f_Kind, .int .i64 r3.f_Cur, .int .i64 r3.f_Customer, .int .i64 r3.f_Product, .int .i64 r3.f_Partition, .int .i32 r3.f_From, .int .i32 50000])) else (.tup [])))] (by cases c36 <;> kernel_rfl) (RunR.cons (tab_cons (on := (!c36)) (fun hg => cashbookref18_Own_ok (gdO_at hg hx37)) tab_nil) (Step.gdG (!c36) (by kernel_rfl) (by
                cases c36
                · exact .inr ⟨by kernel_rfl, by kernel_rfl, Step.call0 (g := 24) (caps := []) (v := .pv (.bool x37)) (by kernel_rfl) (by kernel_rfl) (by kernel_rfl) (tab_hit (by kernel_rfl)) (by kernel_rfl)⟩
                · exact .inl ⟨by kernel_rfl, by kernel_rfl⟩)) (RunR.puts 2 [(137, .pv (.bool (c36 || (!x37)))), (136, (bif !c36 then (.pv (.bool (!x37))) else (.tup [])))] (by cases c36 <;> kernel_rfl) (RunR.all (by kernel_rfl))))))))) ?_
          replace h := bindS h
          obtain ⟨j38, hj38, h⟩ := h
          refine W.join (j := j38) (fun p σ => σ.tidy [] [(3, false), (4, false), (5, false), (7, false), (13, false), (14, false), (15, false), (16, false), (17, false), (18, false)] [(.loc 13 0, false), (.loc 15 0, false), (.loc 17 0, false), (.loc 5 0, false), (.loc 7 0, false)] [.loc 11 0, .loc 6 0] [] = ⟨[(3, .pv (.int .i64 a4)), (4, .pv (.int .i32 day5)), (5, .ptr (.loc 5 0) 0), (7, .ptr (.loc 7 0) 0), (13, .ptr (.loc 13 0) 0), (14, .pv (.int .i64 x9.2)), (15, .ptr (.loc 15 0) 0), (16, .pv (.int .i64 x10.2)), (17, .ptr (.loc 17 0) 0), (18, .pv (.int .i64 p))], [(.loc 13 0, .box [.pv (.slice (List.map T_api_Customer.pv x9.1.f_Customers)), .pv (.slice (List.map T_api_Record.pv x9.1.f_Records))]), (.loc 15 0, .box [.pv (.slice (List.map T_api_Customer.pv x10.1.f_Customers)), .pv (.slice (List.map T_api_Record.pv x10.1.f_Records))]), (.loc 17 0, .box [.nils, .nils]), (.loc 5 0, .box [.pv (.slice (List.map T_api_Customer.pv x6.f_Customers)), .pv (.slice (List.map T_api_Record.pv x6.f_Records))]), (.loc 7 0, .box [.pv (.int .i64 r3.f_Acc), .pv (.int .i64 r3.f_Kind), .pv (.int .i64 r3.f_Cur), .pv (.int .i64 r3.f_Customer), .pv (.int .i64 r3.f_Product), .pv (.int .i64 r3.f_Partition), .pv (.int .i32 r3.f_From), .pv (.int .i32 50000)])]⟩) ?_ (fun σj38 hsj38 => ?_)
          · replace h := hj38
            refine W.condI (t := (c36 || (!x37))) (by kernel_rfl) h (fun hc h' => ?_) (fun hc h' => ?_)
            · replace h := h'
              refine W.ops (RunR.all (by kernel_rfl)) ?_
              cases h
              exact (normw (by (show _ = _); kernel_rfl))
            · replace h := h'
              replace h := bindS h
              obtain ⟨c39, hc39, h⟩ := h
              replace h := bindS h
              obtain ⟨x40, hx40, h⟩ := h
              refine W.seqOps (RunR.stat 3 (by kernel_rfl) (RunR.dyn (Step.name (f := eBool) (e := decide (r3.f_Customer > 0)) (c := c39) (by kernel_rfl) hc39) (RunR.puts 4 [(146, (bif c39 then (.pv (.int .i64 r3.f_Customer)) else (.tup []))), (145, (bif c39 then (.ptr (.loc 7 0) 3) else (.tup []))), (144, (bif c39 then (.pv (.slice (List.map T_api_Customer.pv x6.f_Customers))) else (.tup []))), (143, (bif c39 then (.ptr (.loc 5 0) 0) else (.tup [])))] (by cases c39 <;> kernel_rfl) (RunR.cons (tab_cons (on := c39) (fun hg => cashbookref18_PlaceOf_ok (gdO_at hg hx40)) tab_nil) (Step.gdG c39 (by kernel_rfl) (by
                    cases c39
                    · exact .inl ⟨by kernel_rfl, by kernel_rfl⟩
                    · exact .inr ⟨by kernel_rfl, by kernel_rfl, Step.call0 (g := 21) (caps := []) (v := .pv (.int .i64 x40)) (by kernel_rfl) (by kernel_rfl) (by kernel_rfl) (tab_hit (by kernel_rfl)) (by kernel_rfl)⟩)) (RunR.puts 2 [(149, .pv (.bool (c39 && (decide (x40 < 0))))), (148, (bif c39 then (.pv (.bool (decide (x40 < 0)))) else (.tup [])))] (by cases c39 <;> kernel_rfl) (RunR.all (by kernel_rfl))))))) ?_
              refine W.condI (t := (c39 && (decide (x40 < 0)))) (by kernel_rfl) h (fun hc h' => ?_) (fun hc h' => ?_)
              · replace h := h'
                refine W.ops (RunR.all (by kernel_rfl)) ?_
                cases h
                exact (normw (by (show _ = _); kernel_rfl))
              · replace h := h'
                replace h := bindS h
                obtain ⟨x41, hx41, h⟩ := h
                refine W.seqOps (RunR.stat 4 (by kernel_rfl) (RunR.cons (tab_cons (on := true) (fun _ => cashbookref18_Place_ok hx41) tab_nil) (Step.call0 (g := 25) (caps := []) (v := .pv (.int .i64 x41)) (by kernel_rfl) (by kernel_rfl) (by kernel_rfl) (tab_hit (by kernel_rfl)) (by kernel_rfl)) (RunR.all (by kernel_rfl)))) ?_
                refine W.condI (t := decide (x41 ≥ 0)) (by kernel_rfl) h (fun hc h' => ?_) (fun hc h' => ?_)
                · replace h := h'
                  refine W.ops (RunR.all (by kernel_rfl)) ?_
                  cases h
                  exact (normw (by (show _ = _); kernel_rfl))
                · replace h := h'
                  refine W.seqOps (RunR.stat 2 (by kernel_rfl) (RunR.dyn (Step.lenT (f := T_api_Record.pv) (l := x6.f_Records) (by kernel_rfl)) (RunR.all (by kernel_rfl)))) ?_
                  refine W.condI (t := ((x6.f_Records.length : Int) == 200)) (by kernel_rfl) h (fun hc h' => ?_) (fun hc h' => ?_)
                  · replace h := h'
                    refine W.ops (RunR.all (by kernel_rfl)) ?_
                    cases h
                    exact (normw (by (show _ = _); kernel_rfl))
                  · replace h := h'
                    cases h
                    exact W.skip ((normw (by (show _ = _); kernel_rfl)))
          · refine W.assoc ?_
            refine W.seqKeep hsj38 ?_
            replace h := bindS h
            obtain ⟨c43, hc43, h⟩ := h
            replace h := bindS h
            obtain ⟨c44, hc44, h⟩ := h
            replace h := bindS h
            obtain ⟨x45, hx45, h⟩ := h
            replace h := bindS h
            obtain ⟨x46, hx46, h⟩ := h
            replace h := bindS h
            obtain ⟨c47, hc47, h⟩ := h
            replace h := bindS h
            obtain ⟨c48, hc48, h⟩ := h
            replace h := bindS h
            obtain ⟨x49, hx49, h⟩ := h
            refine W.seqDraw (tab_cons (on := ((!c43) && c44)) (fun hg => cashbookref18_Open_ok (gdO_at hg hx45)) (tab_cons (on := ((!c43) && c44)) (fun hg => cashbookref18_Same_ok (gdO_at hg hx46)) (tab_cons (on := ((!c47) && c48)) (fun hg => cashbookref18_Same_ok (gdO_at hg hx49)) tab_nil))) (Run.stat 3 (by kernel_rfl) (Run.dyn (Step.name (f := eBool) (e := (x9.2 != j38)) (c := c43) (by kernel_rfl) hc43) (Run.puts 2 [(167, (bif !c43 then (.pv (.bool (j38 == 0))) else (.tup []))), (166, (bif !c43 then (.pv (.int .i64 j38)) else (.tup [])))] (by cases c43 <;> kernel_rfl) (Run.dyn (Step.gdG (!c43) (by kernel_rfl) (by
                  cases c43
                  · exact .inr ⟨by kernel_rfl, by kernel_rfl, Step.name (f := eBool) (e := (j38 == 0)) (c := c44) (by kernel_rfl) hc44⟩
                  · exact .inl ⟨by kernel_rfl, by kernel_rfl⟩)) (Run.puts 3 [(171, (bif ((!c43) && c44) then (.pv (.agg [.int .i64 r3.f_Acc, .int .i64 r3.f_Kind, .int .i64 r3.f_Cur, .int .i64 r3.f_Customer, .int .i64 r3.f_Product, .int .i64 r3.f_Partition, .int .i32 r3.f_From, .int .i32 50000])) else (.tup []))), (170, (bif ((!c43) && c44) then (.pv (T_api_Chart.pv x6)) else (.tup []))), (169, (bif ((!c43) && c44) then (.pv (T_api_Chart.pv x9.1)) else (.tup [])))] (by cases c43 <;> cases c44 <;> kernel_rfl) (Run.dyn (Step.gdG ((!c43) && c44) (by kernel_rfl) (by
                  cases c43
                  · cases c44
                    · exact .inl ⟨by kernel_rfl, by kernel_rfl⟩
                    · exact .inr ⟨by kernel_rfl, by kernel_rfl, Step.call0 (g := 26) (caps := []) (v := .pv (T_api_Chart.pv x45)) (by kernel_rfl) (by kernel_rfl) (by kernel_rfl) (tab_hit (by kernel_rfl)) (by kernel_rfl)⟩
                  · cases c44
                    · exact .inl ⟨by kernel_rfl, by kernel_rfl⟩
                    · exact .inl ⟨by kernel_rfl, by kernel_rfl⟩)) (Run.dyn (Step.gdG ((!c43) && c44) (by kernel_rfl) (by
                  cases c43
                  · cases c44
                    · exact .inl ⟨by kernel_rfl, by kernel_rfl⟩
                    · exact .inr ⟨by kernel_rfl, by kernel_rfl, Step.call0 (g := 19) (caps := []) (v := .pv (.bool x46)) (by kernel_rfl) (by kernel_rfl) (by kernel_rfl) (tab_next rfl (tab_hit (by kernel_rfl))) (by kernel_rfl)⟩
                  · cases c44
                    · exact .inl ⟨by kernel_rfl, by kernel_rfl⟩
                    · exact .inl ⟨by kernel_rfl, by kernel_rfl⟩)) (Run.puts 3 [(176, .pv (.bool (c43 || (c44 && (!x46))))), (175, (bif !c43 then (.pv (.bool (c44 && (!x46)))) else (.tup []))), (174, (bif ((!c43) && c44) then (.pv (.bool (!x46))) else (.tup [])))] (by cases c43 <;> cases c44 <;> kernel_rfl) (Run.dyn (Step.name (f := eBool) (e := (c43 || (c44 && (!x46)))) (c := c47) (by kernel_rfl) hc47) (Run.puts 2 [(179, (bif !c47 then (.pv (.bool (j38 != 0))) else (.tup []))), (178, (bif !c47 then (.pv (.int .i64 j38)) else (.tup [])))] (by cases c47 <;> kernel_rfl) (Run.dyn (Step.gdG (!c47) (by kernel_rfl) (by
                  cases c47
                  · exact .inr ⟨by kernel_rfl, by kernel_rfl, Step.name (f := eBool) (e := (j38 != 0)) (c := c48) (by kernel_rfl) hc48⟩
                  · exact .inl ⟨by kernel_rfl, by kernel_rfl⟩)) (Run.puts 2 [(182, (bif ((!c47) && c48) then (.agg [.nils, .nils]) else (.tup []))), (181, (bif ((!c47) && c48) then (.pv (T_api_Chart.pv x9.1)) else (.tup [])))] (by cases c47 <;> cases c48 <;> kernel_rfl) (Run.dyn (Step.gdG ((!c47) && c48) (by kernel_rfl) (by
                  cases c47
                  · cases c48
                    · exact .inl ⟨by kernel_rfl, by kernel_rfl⟩
                    · exact .inr ⟨by kernel_rfl, by kernel_rfl, Step.call0 (g := 19) (caps := []) (v := .pv (.bool x49)) (by kernel_rfl) (by kernel_rfl) (by kernel_rfl) (tab_next rfl (tab_same (fun ho e => congrArg (fun r => (⟨.pv (.bool r), [], []⟩ : Res)) (Option.some.inj ((Eq.symm (gdO_at ho hx46)).trans (Eq.trans (by first | rfl | (simp only [List.cons.injEq, SV.pv.injEq, PV.int.injEq, PV.bool.injEq, PV.str.injEq, PV.slice.injEq, and_true, true_and, eInt_maps, eStr_maps, eBool_maps, T_api_Customer.pv_inj, T_api_Customer.pv_maps, T_api_Record.pv_inj, T_api_Record.pv_maps, T_api_Chart.pv_inj, T_api_Chart.pv_maps] at e; simp only [e])) (gdO_at rfl hx49))))) (tab_hit (by kernel_rfl)))) (by kernel_rfl)⟩
                  · cases c48
                    · exact .inl ⟨by kernel_rfl, by kernel_rfl⟩
                    · exact .inl ⟨by kernel_rfl, by kernel_rfl⟩)) (Run.puts 3 [(186, .pv (.bool (c47 || (c48 && (!x49))))), (185, (bif !c47 then (.pv (.bool (c48 && (!x49)))) else (.tup []))), (184, (bif ((!c47) && c48) then (.pv (.bool (!x49))) else (.tup [])))] (by cases c47 <;> cases c48 <;> kernel_rfl) ((Run.nil)))))))))))))))) ?_
            refine W.seqCond (t := (c47 || (c48 && (!x49)))) (by kernel_rfl) h (fun hc h' => ?_) (fun hc h' => ?_)
            · replace h := h'
              refine W.assoc ?_
              refine W.seqOps (RunR.all (by kernel_rfl)) ?_
              refine W.seqKeep rfl ?_
              cases h
              exact W.seqRet ((fin_ret (by kernel_rfl)))
            · replace h := h'
              refine W.seqSkip ?_
              replace h := bindS h
              obtain ⟨x50, hx50, h⟩ := h
              refine W.seqOps (RunR.stat 3 (by kernel_rfl) (RunR.cons (tab_cons (on := true) (fun _ => cashbookref18_Place_ok hx50) tab_nil) (Step.call0 (g := 25) (caps := []) (v := .pv (.int .i64 x50)) (by kernel_rfl) (by kernel_rfl) (by kernel_rfl) (tab_hit (by kernel_rfl)) (by kernel_rfl)) (RunR.all (by kernel_rfl)))) ?_
              refine W.seqPass ?_
              refine W.assoc ?_
              refine W.seqOps (RunR.all (by kernel_rfl)) ?_
              refine W.seqCond (t := decide (x50 < 0)) (by kernel_rfl) h (fun hc h' => ?_) (fun hc h' => ?_)
              · replace h := h'
                refine W.assoc ?_
                replace h := bindS h
                obtain ⟨c51, hc51, h⟩ := h
                replace h := bindS h
                obtain ⟨x52, hx52, h⟩ := h
                refine W.seqOps (RunR.stat 2 (by kernel_rfl) (RunR.dyn (Step.name (f := eBool) (e := (x10.2 == 8)) (c := c51) (by kernel_rfl) hc51) (RunR.puts 2 [(198, (bif c51 then (.agg [.nils, .nils]) else (.tup []))), (197, (bif c51 then (.pv (T_api_Chart.pv x10.1)) else (.tup [])))] (by cases c51 <;> kernel_rfl) (RunR.cons (tab_cons (on := c51) (fun hg => cashbookref18_Same_ok (gdO_at hg hx52)) tab_nil) (Step.gdG c51 (by kernel_rfl) (by
                      cases c51
                      · exact .inl ⟨by kernel_rfl, by kernel_rfl⟩
                      · exact .inr ⟨by kernel_rfl, by kernel_rfl, Step.call0 (g := 19) (caps := []) (v := .pv (.bool x52)) (by kernel_rfl) (by kernel_rfl) (by kernel_rfl) (tab_hit (by kernel_rfl)) (by kernel_rfl)⟩)) (RunR.puts 1 [(200, .pv (.bool (c51 && x52)))] (by cases c51 <;> kernel_rfl) (RunR.all (by kernel_rfl))))))) ?_
                refine W.seqKeep rfl ?_
                cases h
                exact W.seqRet ((fin_ret (by kernel_rfl)))
              · replace h := h'
                refine W.assoc ?_
                replace h := bindS h
                obtain ⟨x53, hx53, h⟩ := h
                refine W.seqOps (RunR.stat 3 (by kernel_rfl) (RunR.dyn (Step.idxT (f := T_api_Record.pv) (l := x6.f_Records) (n := x50) (e := x53) (k := .i64) (by kernel_rfl) (by kernel_rfl) hx53 (by kernel_rfl)) (RunR.all (by kernel_rfl)))) ?_
                refine W.seqCond (t := (x53.f_To != 50000)) (by kernel_rfl) h (fun hc h' => ?_) (fun hc h' => ?_)
                · replace h := h'
                  refine W.assoc ?_
                  replace h := bindS h
                  obtain ⟨c54, hc54, h⟩ := h
                  replace h := bindS h
                  obtain ⟨x55, hx55, h⟩ := h
                  refine W.seqOps (RunR.stat 2 (by kernel_rfl) (RunR.dyn (Step.name (f := eBool) (e := (x10.2 == 16)) (c := c54) (by kernel_rfl) hc54) (RunR.puts 2 [(213, (bif c54 then (.agg [.nils, .nils]) else (.tup []))), (212, (bif c54 then (.pv (T_api_Chart.pv x10.1)) else (.tup [])))] (by cases c54 <;> kernel_rfl) (RunR.cons (tab_cons (on := c54) (fun hg => cashbookref18_Same_ok (gdO_at hg hx55)) tab_nil) (Step.gdG c54 (by kernel_rfl) (by
                        cases c54
                        · exact .inl ⟨by kernel_rfl, by kernel_rfl⟩
                        · exact .inr ⟨by kernel_rfl, by kernel_rfl, Step.call0 (g := 19) (caps := []) (v := .pv (.bool x55)) (by kernel_rfl) (by kernel_rfl) (by kernel_rfl) (tab_hit (by kernel_rfl)) (by kernel_rfl)⟩)) (RunR.puts 1 [(215, .pv (.bool (c54 && x55)))] (by cases c54 <;> kernel_rfl) (RunR.all (by kernel_rfl))))))) ?_
                  refine W.seqKeep rfl ?_
                  cases h
                  exact W.seqRet ((fin_ret (by kernel_rfl)))
                · replace h := h'
                  refine W.assoc ?_
                  replace h := bindS h
                  obtain ⟨x56, hx56, h⟩ := h
                  replace h := bindS h
                  obtain ⟨c57, hc57, h⟩ := h
                  replace h := bindS h
                  obtain ⟨x58, hx58, h⟩ := h
                  refine W.seqOps (RunR.stat 1 (by kernel_rfl) (RunR.cons (tab_cons (on := true) (fun _ => cashbookref04_Right_ok hx56) tab_nil) (Step.call0 (g := 27) (caps := []) (v := .pv (.bool x56)) (by kernel_rfl) (by kernel_rfl) (by kernel_rfl) (tab_hit (by kernel_rfl)) (by kernel_rfl)) (RunR.stat 1 (by kernel_rfl) (RunR.dyn (Step.name (f := eBool) (e := !x56) (c := c57) (by kernel_rfl) hc57) (RunR.puts 4 [(224, (bif !c57 then (.pv (.int .i64 x50)) else (.tup []))), (223, (bif !c57 then (.pv (.slice (List.map T_api_Record.pv x6.f_Records))) else (.tup []))), (222, (bif !c57 then (.ptr (.loc 5 0) 1) else (.tup []))), (221, (bif !c57 then (.pv (.int .i32 day5)) else (.tup [])))] (by cases c57 <;> kernel_rfl) (RunR.dyn (Step.gdG (!c57) (by kernel_rfl) (by
                        cases c57
                        · exact .inr ⟨by kernel_rfl, by kernel_rfl, Step.idxT (f := T_api_Record.pv) (l := x6.f_Records) (n := x50) (e := x58) (k := .i64) (by kernel_rfl) (by kernel_rfl) hx58 (by kernel_rfl)⟩
                        · exact .inl ⟨by kernel_rfl, by kernel_rfl⟩)) (RunR.puts 4 [(229, .pv (.bool (c57 || (decide (day5 < x58.f_From))))), (228, (bif !c57 then (.pv (.bool (decide (day5 < x58.f_From)))) else (.tup []))), (227, (bif !c57 then (.pv (.int .i32 x58.f_From)) else (.tup []))), (226, (bif !c57 then (.ipv (T_api_Record.pv x58) 6) else (.tup [])))] (by cases c57 <;> kernel_rfl) (RunR.all (by kernel_rfl))))))))) ?_
                  refine W.seqCond (t := (c57 || (decide (day5 < x58.f_From)))) (by kernel_rfl) h (fun hc h' => ?_) (fun hc h' => ?_)
                  · replace h := h'
                    refine W.assoc ?_
                    replace h := bindS h
                    obtain ⟨c59, hc59, h⟩ := h
                    replace h := bindS h
                    obtain ⟨x60, hx60, h⟩ := h
                    refine W.seqOps (RunR.stat 2 (by kernel_rfl) (RunR.dyn (Step.name (f := eBool) (e := (x10.2 == 11)) (c := c59) (by kernel_rfl) hc59) (RunR.puts 2 [(234, (bif c59 then (.agg [.nils, .nils]) else (.tup []))), (233, (bif c59 then (.pv (T_api_Chart.pv x10.1)) else (.tup [])))] (by cases c59 <;> kernel_rfl) (RunR.cons (tab_cons (on := c59) (fun hg => cashbookref18_Same_ok (gdO_at hg hx60)) tab_nil) (Step.gdG c59 (by kernel_rfl) (by
                          cases c59
                          · exact .inl ⟨by kernel_rfl, by kernel_rfl⟩
                          · exact .inr ⟨by kernel_rfl, by kernel_rfl, Step.call0 (g := 19) (caps := []) (v := .pv (.bool x60)) (by kernel_rfl) (by kernel_rfl) (by kernel_rfl) (tab_hit (by kernel_rfl)) (by kernel_rfl)⟩)) (RunR.puts 1 [(236, .pv (.bool (c59 && x60)))] (by cases c59 <;> kernel_rfl) (RunR.all (by kernel_rfl))))))) ?_
                    refine W.seqKeep rfl ?_
                    cases h
                    exact W.seqRet ((fin_ret (by kernel_rfl)))
                  · replace h := h'
                    refine W.seqSkip ?_
                    replace h := bindS h
                    obtain ⟨c61, hc61, h⟩ := h
                    replace h := bindS h
                    obtain ⟨x62, hx62, h⟩ := h
                    replace h := bindS h
                    obtain ⟨x63, hx63, h⟩ := h
                    refine W.seqDraw (tab_cons (on := c61) (fun hg => cashbookref18_Close_ok (gdO_at hg hx62)) (tab_cons (on := c61) (fun hg => cashbookref18_Same_ok (gdO_at hg hx63)) tab_nil)) (Run.stat 2 (by kernel_rfl) (Run.dyn (Step.name (f := eBool) (e := (x10.2 == 0)) (c := c61) (by kernel_rfl) hc61) (Run.puts 4 [(243, (bif c61 then (.pv (.int .i32 day5)) else (.tup []))), (242, (bif c61 then (.pv (.int .i64 x50)) else (.tup []))), (241, (bif c61 then (.pv (T_api_Chart.pv x6)) else (.tup []))), (240, (bif c61 then (.pv (T_api_Chart.pv x10.1)) else (.tup [])))] (by cases c61 <;> kernel_rfl) (Run.dyn (Step.gdG c61 (by kernel_rfl) (by
                          cases c61
                          · exact .inl ⟨by kernel_rfl, by kernel_rfl⟩
                          · exact .inr ⟨by kernel_rfl, by kernel_rfl, Step.call0 (g := 28) (caps := []) (v := .pv (T_api_Chart.pv x62)) (by kernel_rfl) (by kernel_rfl) (by kernel_rfl) (tab_hit (by kernel_rfl)) (by kernel_rfl)⟩)) (Run.dyn (Step.gdG c61 (by kernel_rfl) (by
                          cases c61
                          · exact .inl ⟨by kernel_rfl, by kernel_rfl⟩
                          · exact .inr ⟨by kernel_rfl, by kernel_rfl, Step.call0 (g := 19) (caps := []) (v := .pv (.bool x63)) (by kernel_rfl) (by kernel_rfl) (by kernel_rfl) (tab_next rfl (tab_hit (by kernel_rfl))) (by kernel_rfl)⟩)) (Run.puts 1 [(246, .pv (.bool (c61 && x63)))] (by cases c61 <;> kernel_rfl) (Run.all (by kernel_rfl)))))))) ?_
                    refine W.keep rfl ?_
                    cases h
                    exact W.ret ((fin_ret (by kernel_rfl)))
end Go.Av.G
