/- What functions of the program compute, in plain words, and that they do: printed by a program of ours. -/
import Derived.Test.YtkcilagjhieapaaUdd
import Derived.Test.YtkcilagjhieapaaBins57
import Derived.Test.YtkcilagjhieapaaBins63
set_option linter.unusedVariables false
set_option linter.unusedSimpArgs false
set_option maxRecDepth 100000
set_option maxHeartbeats 8000000
namespace Go.Av.G
open Go Go.Av Go.Proofs
theorem slices_Clone58_ok {l r : List T_api_Customer} (h : slices_Clone 32 l = some r) : Contract Try.prog 58 [.pv (.slice (List.map T_api_Customer.pv l))] [] ⟨.own (.res 0), [some (.row 3 (List.map T_api_Customer.pv r))], []⟩ := by
  obtain ⟨hb, rfl⟩ := slices_Clone_spec h
  exact clone_row (P := Try.prog) Try.laysClone58 ((Try.prog.info? 27).getD default) ((((Try.prog.info? 27).getD default).zero).getD undef) 3 32 (by kernel_rfl) (by kernel_rfl) (by kernel_rfl) (by kernel_rfl) (by kernel_rfl) (by decide) Try.sizeOf27 ⟨Try.f58, Try.func58, by kernel_rfl, by kernel_rfl⟩ (fun _ => rfl) hb (by decide)
theorem slices_Clone59_ok {l r : List T_api_Record} (h : slices_Clone 56 l = some r) : Contract Try.prog 59 [.pv (.slice (List.map T_api_Record.pv l))] [] ⟨.own (.res 0), [some (.row 8 (List.map T_api_Record.pv r))], []⟩ := by
  obtain ⟨hb, rfl⟩ := slices_Clone_spec h
  exact clone_row (P := Try.prog) Try.laysClone59 ((Try.prog.info? 32).getD default) ((((Try.prog.info? 32).getD default).zero).getD undef) 8 56 (by kernel_rfl) (by kernel_rfl) (by kernel_rfl) (by kernel_rfl) (by kernel_rfl) (by decide) Try.sizeOf32 ⟨Try.f59, Try.func59, by kernel_rfl, by kernel_rfl⟩ (fun _ => rfl) hb (by decide)
def pchart_idOfr0 : List GOp := [⟨(some 1), none, .box (.tmp 0)⟩, ⟨(some 2), none, .mov (.cst (.int .i64 0))⟩]
def pchart_idOfr1 : List GOp := [⟨(some 3), none, .fld 0 (.tmp 1)⟩, ⟨(some 4), none, .load false 1 (.tmp 3)⟩, ⟨(some 2), none, .mov (.tmp 4)⟩]
def pchart_idOfb : AC := (.seq (.ops pchart_idOfr0) (.seq (.ops pchart_idOfr1) (.keep [] [(2, false)] [] [.loc 1 0] [] .ret)))
def pchart_idOf : Fd := ⟨1, [.tmp 2], [], pchart_idOfb⟩
theorem pchart_idOf_ag : agreeF Try.prog Try.f56 pchart_idOf = true := by kernel_rfl
theorem chart_idOf_ok {x1 : T_api_Customer} {r : Int} (h : chart_idOf x1 = some r) : Contract Try.prog 56 [.pv (T_api_Customer.pv x1)] [] ⟨.pv (.int .i64 r), [], []⟩ := by
  refine contract_fin hm Try.func56 pchart_idOf_ag (by kernel_rfl) ?_
  unfold chart_idOf at h
  refine W.seqOps (RunR.all (by kernel_rfl)) ?_
  refine W.seqOps (RunR.all (by kernel_rfl)) ?_
  refine W.keep rfl ?_
  cases h
  exact W.ret ((fin_ret (by kernel_rfl)))
def pchart_rises_Customer_intr0 : List GOp := [⟨(some 4), none, .mov (.cst (.bool false))⟩]
def pchart_rises_Customer_intr1 : List GOp := [⟨(some 5), none, .mov (.cst (.int .i64 1))⟩]
def pchart_rises_Customer_intr2 : List GOp := [⟨(some 6), none, .mov (.tmp 5)⟩, ⟨(some 7), none, .mov (.tmp 0)⟩, ⟨(some 8), none, .len false (.tmp 7)⟩, ⟨(some 9), none, .bin false .lss (.tmp 6) (.tmp 8)⟩]
def pchart_rises_Customer_intr3 : List GOp := [⟨(some 12), none, .mov (.tmp 1)⟩, ⟨(some 13), none, .mov (.tmp 0)⟩, ⟨(some 14), none, .mov (.tmp 5)⟩, ⟨(some 15), none, .bin false .sub (.tmp 14) (.cst (.int .i64 1))⟩, ⟨(some 16), none, .idx 3 (.tmp 13) (.tmp 15)⟩, ⟨(some 17), none, .load true 3 (.tmp 16)⟩, ⟨(some 18), none, .call 0 0 (.tmp 12) [(.tmp 17)] [] []⟩, ⟨(some 19), none, .mov (.tmp 1)⟩, ⟨(some 20), none, .mov (.tmp 0)⟩, ⟨(some 21), none, .mov (.tmp 5)⟩, ⟨(some 22), none, .idx 3 (.tmp 20) (.tmp 21)⟩, ⟨(some 23), none, .load true 3 (.tmp 22)⟩, ⟨(some 24), none, .call 0 0 (.tmp 19) [(.tmp 23)] [] []⟩, ⟨(some 25), none, .bin false .geq (.tmp 18) (.tmp 24)⟩]
def pchart_rises_Customer_intr4 : List GOp := [⟨(some 4), none, .mov (.cst (.bool false))⟩]
def pchart_rises_Customer_intr5 : List GOp := [⟨(some 10), none, .mov (.tmp 5)⟩, ⟨(some 11), none, .bin false .add (.tmp 10) (.cst (.int .i64 1))⟩, ⟨(some 5), none, .mov (.tmp 11)⟩]
def pchart_rises_Customer_intl6 : AC := (.keep [] [(0, false), (1, false), (5, false)] [] [] [] (.seq (.seq (.ops pchart_rises_Customer_intr2) (.cond (.tmp 9) .skip (.exit 0))) (.seq (.pass 1 (.seq (.draw [] pchart_rises_Customer_intr3) (.cond (.tmp 25) (.seq (.ops pchart_rises_Customer_intr4) (.keep [] [(4, false)] [] [] [] .ret)) .skip))) (.ops pchart_rises_Customer_intr5))))
def pchart_rises_Customer_intr7 : List GOp := [⟨(some 4), none, .mov (.cst (.bool true))⟩]
def pchart_rises_Customer_intb : AC := (.seq (.ops pchart_rises_Customer_intr0) (.seq (.seq (.ops pchart_rises_Customer_intr1) (.block 0 (.loop [0, 1, 5] [] pchart_rises_Customer_intl6))) (.seq (.keep [] [] [] [] [] (.ops pchart_rises_Customer_intr7)) (.keep [] [(4, false)] [] [] [] .ret))))
def pchart_rises_Customer_int : Fd := ⟨2, [.tmp 4], [], pchart_rises_Customer_intb⟩
theorem pchart_rises_Customer_int_ag : agreeF Try.prog Try.f65 pchart_rises_Customer_int = true := by kernel_rfl
theorem chart_rises_Customer_int_ok {l1 : List T_api_Customer} {r : Bool} (h : chart_rises_Customer_int l1 = some r) : Contract Try.prog 65 [.pv (.slice (List.map T_api_Customer.pv l1)), .pv (.fn 56)] [] ⟨.pv (.bool r), [], []⟩ := by
  refine contract_fin hm Try.func65 pchart_rises_Customer_int_ag (by kernel_rfl) ?_
  unfold chart_rises_Customer_int at h
  refine W.seqOps (RunR.all (by kernel_rfl)) ?_
  refine W.assoc ?_
  refine W.seqOps (RunR.all (by kernel_rfl)) ?_
  replace h := bindS h
  obtain ⟨j2, hj2, h⟩ := h
  refine W.joinOut (j := j2) (o := r) (fun p σ => σ.tidy [] [] [] [] [] = ⟨[], []⟩) ?_ (fun p σj2 hp hsj2 => ?_) (fun p hp => ?_)
  · refine W.blockLoopO (fun q σ => ((σ.forget [0, 1, 5]).killAll []).tidy [] [(0, false), (1, false), (5, false)] [] [] [] = ⟨[(0, .pv (.slice (List.map T_api_Customer.pv l1))), (1, .pv (.fn 56)), (5, .pv (.int .i64 q))], []⟩) hj2 ?_ ?_
    · exact (by (show _ = _); kernel_rfl)
    · intro i3 σj2 oj2 hJj2 h
      refine W.keep hJj2 ?_
      refine W.assoc ?_
      refine W.seqOps (RunR.stat 2 (by kernel_rfl) (RunR.dyn (Step.lenT (f := T_api_Customer.pv) (l := l1) (by kernel_rfl)) (RunR.all (by kernel_rfl)))) ?_
      refine W.seqCond (t := decide (i3 < (l1.length : Int))) (by kernel_rfl) h (fun hc h' => ?_) (fun hc h' => ?_)
      · replace h := h'
        refine W.seqSkip ?_
        refine W.seqPass ?_
        refine W.assoc ?_
        replace h := bindS h
        obtain ⟨x4, hx4, h⟩ := h
        replace h := bindS h
        obtain ⟨x5, hx5, h⟩ := h
        replace h := bindS h
        obtain ⟨x6, hx6, h⟩ := h
        replace h := bindS h
        obtain ⟨x7, hx7, h⟩ := h
        refine W.seqDraw (tab_cons (on := true) (fun _ => chart_idOf_ok hx5) (tab_cons (on := true) (fun _ => chart_idOf_ok hx7) tab_nil)) (Run.stat 4 (by kernel_rfl) (Run.dyn (Step.idxT (f := T_api_Customer.pv) (l := l1) (n := IntKind.wrap .i64 (i3 - 1)) (e := x4) (k := .i64) (by kernel_rfl) (by kernel_rfl) hx4 (by kernel_rfl)) (Run.stat 1 (by kernel_rfl) (Run.dyn (Step.call0 (g := 56) (caps := []) (v := .pv (.int .i64 x5)) (by kernel_rfl) (by kernel_rfl) (by kernel_rfl) (tab_hit (by kernel_rfl)) (by kernel_rfl)) (Run.stat 3 (by kernel_rfl) (Run.dyn (Step.idxT (f := T_api_Customer.pv) (l := l1) (n := i3) (e := x6) (k := .i64) (by kernel_rfl) (by kernel_rfl) hx6 (by kernel_rfl)) (Run.stat 1 (by kernel_rfl) (Run.dyn (Step.call0 (g := 56) (caps := []) (v := .pv (.int .i64 x7)) (by kernel_rfl) (by kernel_rfl) (by kernel_rfl) (tab_same (fun ho e => congrArg (fun r => (⟨.pv (.int .i64 r), [], []⟩ : Res)) (Option.some.inj ((Eq.symm hx5).trans (Eq.trans (by first | rfl | (simp only [List.cons.injEq, SV.pv.injEq, PV.int.injEq, PV.bool.injEq, PV.str.injEq, PV.slice.injEq, and_true, true_and, eInt_maps, eStr_maps, eBool_maps, T_api_Record.pv_inj, T_api_Record.pv_maps, T_cashbooklaw18_Step.pv_inj, T_cashbooklaw18_Step.pv_maps, T_api_Customer.pv_inj, T_api_Customer.pv_maps, T_api_Chart.pv_inj, T_api_Chart.pv_maps] at e; simp only [e])) hx7)))) (tab_hit (by kernel_rfl))) (by kernel_rfl)) (Run.all (by kernel_rfl)))))))))) ?_
        refine W.seqCond (t := decide (x5 ≥ x7)) (by kernel_rfl) h (fun hc h' => ?_) (fun hc h' => ?_)
        · replace h := h'
          refine W.assoc ?_
          refine W.seqOps (RunR.all (by kernel_rfl)) ?_
          refine W.seqKeep rfl ?_
          cases h
          exact W.seqRet ((outw_out ret_ne (bout_o ret_ne ret_ne' (fun e => by subst e; exact (fin_ret (by kernel_rfl))))))
        · replace h := h'
          refine W.seqSkip ?_
          refine W.ops (RunR.all (by kernel_rfl)) ?_
          cases h
          exact (outw_in (by (show _ = _); kernel_rfl))
      · replace h := h'
        cases h
        exact W.seqExit ((outw_out exit_ne (bout_x (by (show _ = _); kernel_rfl))))
  · subst hp
    obtain ⟨⟩ := p
    refine W.seqKeep hsj2 ?_
    refine W.seqOps (RunR.all (by kernel_rfl)) ?_
    refine W.keep rfl ?_
    cases h
    exact W.ret ((fin_ret (by kernel_rfl)))
  · subst hp
    exact Option.some.inj h
def pchart_accOfr0 : List GOp := [⟨(some 1), none, .box (.tmp 0)⟩, ⟨(some 2), none, .mov (.cst (.int .i64 0))⟩]
def pchart_accOfr1 : List GOp := [⟨(some 3), none, .fld 0 (.tmp 1)⟩, ⟨(some 4), none, .load false 1 (.tmp 3)⟩, ⟨(some 2), none, .mov (.tmp 4)⟩]
def pchart_accOfb : AC := (.seq (.ops pchart_accOfr0) (.seq (.ops pchart_accOfr1) (.keep [] [(2, false)] [] [.loc 1 0] [] .ret)))
def pchart_accOf : Fd := ⟨1, [.tmp 2], [], pchart_accOfb⟩
theorem pchart_accOf_ag : agreeF Try.prog Try.f62 pchart_accOf = true := by kernel_rfl
theorem chart_accOf_ok {r1 : T_api_Record} {r : Int} (h : chart_accOf r1 = some r) : Contract Try.prog 62 [.pv (T_api_Record.pv r1)] [] ⟨.pv (.int .i64 r), [], []⟩ := by
  refine contract_fin hm Try.func62 pchart_accOf_ag (by kernel_rfl) ?_
  unfold chart_accOf at h
  refine W.seqOps (RunR.all (by kernel_rfl)) ?_
  refine W.seqOps (RunR.all (by kernel_rfl)) ?_
  refine W.keep rfl ?_
  cases h
  exact W.ret ((fin_ret (by kernel_rfl)))
def pchart_rises_Record_Accountr0 : List GOp := [⟨(some 4), none, .mov (.cst (.bool false))⟩]
def pchart_rises_Record_Accountr1 : List GOp := [⟨(some 5), none, .mov (.cst (.int .i64 1))⟩]
def pchart_rises_Record_Accountr2 : List GOp := [⟨(some 6), none, .mov (.tmp 5)⟩, ⟨(some 7), none, .mov (.tmp 0)⟩, ⟨(some 8), none, .len false (.tmp 7)⟩, ⟨(some 9), none, .bin false .lss (.tmp 6) (.tmp 8)⟩]
def pchart_rises_Record_Accountr3 : List GOp := [⟨(some 12), none, .mov (.tmp 1)⟩, ⟨(some 13), none, .mov (.tmp 0)⟩, ⟨(some 14), none, .mov (.tmp 5)⟩, ⟨(some 15), none, .bin false .sub (.tmp 14) (.cst (.int .i64 1))⟩, ⟨(some 16), none, .idx 8 (.tmp 13) (.tmp 15)⟩, ⟨(some 17), none, .load true 8 (.tmp 16)⟩, ⟨(some 18), none, .call 0 0 (.tmp 12) [(.tmp 17)] [] []⟩, ⟨(some 19), none, .mov (.tmp 1)⟩, ⟨(some 20), none, .mov (.tmp 0)⟩, ⟨(some 21), none, .mov (.tmp 5)⟩, ⟨(some 22), none, .idx 8 (.tmp 20) (.tmp 21)⟩, ⟨(some 23), none, .load true 8 (.tmp 22)⟩, ⟨(some 24), none, .call 0 0 (.tmp 19) [(.tmp 23)] [] []⟩, ⟨(some 25), none, .bin false .geq (.tmp 18) (.tmp 24)⟩]
def pchart_rises_Record_Accountr4 : List GOp := [⟨(some 4), none, .mov (.cst (.bool false))⟩]
def pchart_rises_Record_Accountr5 : List GOp := [⟨(some 10), none, .mov (.tmp 5)⟩, ⟨(some 11), none, .bin false .add (.tmp 10) (.cst (.int .i64 1))⟩, ⟨(some 5), none, .mov (.tmp 11)⟩]
def pchart_rises_Record_Accountl6 : AC := (.keep [] [(0, false), (1, false), (5, false)] [] [] [] (.seq (.seq (.ops pchart_rises_Record_Accountr2) (.cond (.tmp 9) .skip (.exit 0))) (.seq (.pass 1 (.seq (.draw [] pchart_rises_Record_Accountr3) (.cond (.tmp 25) (.seq (.ops pchart_rises_Record_Accountr4) (.keep [] [(4, false)] [] [] [] .ret)) .skip))) (.ops pchart_rises_Record_Accountr5))))
def pchart_rises_Record_Accountr7 : List GOp := [⟨(some 4), none, .mov (.cst (.bool true))⟩]
def pchart_rises_Record_Accountb : AC := (.seq (.ops pchart_rises_Record_Accountr0) (.seq (.seq (.ops pchart_rises_Record_Accountr1) (.block 0 (.loop [0, 1, 5] [] pchart_rises_Record_Accountl6))) (.seq (.keep [] [] [] [] [] (.ops pchart_rises_Record_Accountr7)) (.keep [] [(4, false)] [] [] [] .ret))))
def pchart_rises_Record_Account : Fd := ⟨2, [.tmp 4], [], pchart_rises_Record_Accountb⟩
theorem pchart_rises_Record_Account_ag : agreeF Try.prog Try.f66 pchart_rises_Record_Account = true := by kernel_rfl
theorem chart_rises_Record_Account_ok {l1 : List T_api_Record} {r : Bool} (h : chart_rises_Record_Account l1 = some r) : Contract Try.prog 66 [.pv (.slice (List.map T_api_Record.pv l1)), .pv (.fn 62)] [] ⟨.pv (.bool r), [], []⟩ := by
  refine contract_fin hm Try.func66 pchart_rises_Record_Account_ag (by kernel_rfl) ?_
  unfold chart_rises_Record_Account at h
  refine W.seqOps (RunR.all (by kernel_rfl)) ?_
  refine W.assoc ?_
  refine W.seqOps (RunR.all (by kernel_rfl)) ?_
  replace h := bindS h
  obtain ⟨j2, hj2, h⟩ := h
  refine W.joinOut (j := j2) (o := r) (fun p σ => σ.tidy [] [] [] [] [] = ⟨[], []⟩) ?_ (fun p σj2 hp hsj2 => ?_) (fun p hp => ?_)
  · refine W.blockLoopO (fun q σ => ((σ.forget [0, 1, 5]).killAll []).tidy [] [(0, false), (1, false), (5, false)] [] [] [] = ⟨[(0, .pv (.slice (List.map T_api_Record.pv l1))), (1, .pv (.fn 62)), (5, .pv (.int .i64 q))], []⟩) hj2 ?_ ?_
    · exact (by (show _ = _); kernel_rfl)
    · intro i3 σj2 oj2 hJj2 h
      refine W.keep hJj2 ?_
      refine W.assoc ?_
      refine W.seqOps (RunR.stat 2 (by kernel_rfl) (RunR.dyn (Step.lenT (f := T_api_Record.pv) (l := l1) (by kernel_rfl)) (RunR.all (by kernel_rfl)))) ?_
      refine W.seqCond (t := decide (i3 < (l1.length : Int))) (by kernel_rfl) h (fun hc h' => ?_) (fun hc h' => ?_)
      · replace h := h'
        refine W.seqSkip ?_
        refine W.seqPass ?_
        refine W.assoc ?_
        replace h := bindS h
        obtain ⟨x4, hx4, h⟩ := h
        replace h := bindS h
        obtain ⟨x5, hx5, h⟩ := h
        replace h := bindS h
        obtain ⟨x6, hx6, h⟩ := h
        replace h := bindS h
        obtain ⟨x7, hx7, h⟩ := h
        refine W.seqDraw (tab_cons (on := true) (fun _ => chart_accOf_ok hx5) (tab_cons (on := true) (fun _ => chart_accOf_ok hx7) tab_nil)) (Run.stat 4 (by kernel_rfl) (Run.dyn (Step.idxT (f := T_api_Record.pv) (l := l1) (n := IntKind.wrap .i64 (i3 - 1)) (e := x4) (k := .i64) (by kernel_rfl) (by kernel_rfl) hx4 (by kernel_rfl)) (Run.stat 1 (by kernel_rfl) (Run.dyn (Step.call0 (g := 62) (caps := []) (v := .pv (.int .i64 x5)) (by kernel_rfl) (by kernel_rfl) (by kernel_rfl) (tab_hit (by kernel_rfl)) (by kernel_rfl)) (Run.stat 3 (by kernel_rfl) (Run.dyn (Step.idxT (f := T_api_Record.pv) (l := l1) (n := i3) (e := x6) (k := .i64) (by kernel_rfl) (by kernel_rfl) hx6 (by kernel_rfl)) (Run.stat 1 (by kernel_rfl) (Run.dyn (Step.call0 (g := 62) (caps := []) (v := .pv (.int .i64 x7)) (by kernel_rfl) (by kernel_rfl) (by kernel_rfl) (tab_same (fun ho e => congrArg (fun r => (⟨.pv (.int .i64 r), [], []⟩ : Res)) (Option.some.inj ((Eq.symm hx5).trans (Eq.trans (by first | rfl | (simp only [List.cons.injEq, SV.pv.injEq, PV.int.injEq, PV.bool.injEq, PV.str.injEq, PV.slice.injEq, and_true, true_and, eInt_maps, eStr_maps, eBool_maps, T_api_Record.pv_inj, T_api_Record.pv_maps, T_cashbooklaw18_Step.pv_inj, T_cashbooklaw18_Step.pv_maps, T_api_Customer.pv_inj, T_api_Customer.pv_maps, T_api_Chart.pv_inj, T_api_Chart.pv_maps] at e; simp only [e])) hx7)))) (tab_hit (by kernel_rfl))) (by kernel_rfl)) (Run.all (by kernel_rfl)))))))))) ?_
        refine W.seqCond (t := decide (x5 ≥ x7)) (by kernel_rfl) h (fun hc h' => ?_) (fun hc h' => ?_)
        · replace h := h'
          refine W.assoc ?_
          refine W.seqOps (RunR.all (by kernel_rfl)) ?_
          refine W.seqKeep rfl ?_
          cases h
          exact W.seqRet ((outw_out ret_ne (bout_o ret_ne ret_ne' (fun e => by subst e; exact (fin_ret (by kernel_rfl))))))
        · replace h := h'
          refine W.seqSkip ?_
          refine W.ops (RunR.all (by kernel_rfl)) ?_
          cases h
          exact (outw_in (by (show _ = _); kernel_rfl))
      · replace h := h'
        cases h
        exact W.seqExit ((outw_out exit_ne (bout_x (by (show _ = _); kernel_rfl))))
  · subst hp
    obtain ⟨⟩ := p
    refine W.seqKeep hsj2 ?_
    refine W.seqOps (RunR.all (by kernel_rfl)) ?_
    refine W.keep rfl ?_
    cases h
    exact W.ret ((fin_ret (by kernel_rfl)))
  · subst hp
    exact Option.some.inj h
def pchart_in_intr0 : List GOp := [⟨(some 6), none, .mov (.cst (.bool false))⟩]
def pchart_in_intr1 : List GOp := [⟨(some 7), none, .mov (.tmp 0)⟩, ⟨(some 8), none, .mov (.tmp 1)⟩, ⟨(some 9), none, .bin false .geq (.tmp 7) (.tmp 8)⟩, ⟨(some 10), none, .mov (.tmp 9)⟩, ⟨(some 11), (some (10, true)), .mov (.tmp 0)⟩, ⟨(some 12), (some (10, true)), .mov (.tmp 2)⟩, ⟨(some 13), (some (10, true)), .bin false .leq (.tmp 11) (.tmp 12)⟩, ⟨(some 14), none, .pick (.tmp 10) (.tmp 13) (.cst (.bool false))⟩, ⟨(some 6), none, .mov (.tmp 14)⟩]
def pchart_in_intb : AC := (.seq (.ops pchart_in_intr0) (.seq (.ops pchart_in_intr1) (.keep [] [(6, false)] [] [] [] .ret)))
def pchart_in_int : Fd := ⟨3, [.tmp 6], [], pchart_in_intb⟩
theorem pchart_in_int_ag : agreeF Try.prog Try.f90 pchart_in_int = true := by kernel_rfl
theorem chart_in_int_ok {n1 : Int} {low2 : Int} {high3 : Int} {r : Bool} (h : chart_in_int n1 low2 high3 = some r) : Contract Try.prog 90 [.pv (.int .i64 n1), .pv (.int .i64 low2), .pv (.int .i64 high3)] [] ⟨.pv (.bool r), [], []⟩ := by
  refine contract_fin hm Try.func90 pchart_in_int_ag (by kernel_rfl) ?_
  unfold chart_in_int at h
  refine W.seqOps (RunR.all (by kernel_rfl)) ?_
  replace h := bindS h
  obtain ⟨c4, hc4, h⟩ := h
  refine W.seqOps (RunR.stat 3 (by kernel_rfl) (RunR.dyn (Step.name (f := eBool) (e := decide (n1 ≥ low2)) (c := c4) (by kernel_rfl) hc4) (RunR.puts 4 [(14, .pv (.bool (c4 && (decide (n1 ≤ high3))))), (13, (bif c4 then (.pv (.bool (decide (n1 ≤ high3)))) else (.tup []))), (12, (bif c4 then (.pv (.int .i64 high3)) else (.tup []))), (11, (bif c4 then (.pv (.int .i64 n1)) else (.tup [])))] (by cases c4 <;> kernel_rfl) (RunR.all (by kernel_rfl))))) ?_
  refine W.keep rfl ?_
  cases h
  exact W.ret ((fin_ret (by kernel_rfl)))
def pchart_isCustomer_1r0 : List GOp := [⟨(some 2), none, .mov (.cst (.bool false))⟩]
def pchart_isCustomer_1r1 : List GOp := [⟨(some 3), none, .mov (.tmp 0)⟩, ⟨(some 4), none, .bin false .lss (.tmp 3) (.cst (.int .i32 32))⟩, ⟨(some 5), none, .mov (.tmp 4)⟩, ⟨(some 6), (some (5, false)), .mov (.tmp 0)⟩, ⟨(some 7), (some (5, false)), .bin false .gtr (.tmp 6) (.cst (.int .i32 126))⟩, ⟨(some 8), none, .pick (.tmp 5) (.cst (.bool true)) (.tmp 7)⟩, ⟨(some 2), none, .mov (.tmp 8)⟩]
def pchart_isCustomer_1b : AC := (.seq (.ops pchart_isCustomer_1r0) (.seq (.ops pchart_isCustomer_1r1) (.keep [] [(2, false)] [] [] [] .ret)))
def pchart_isCustomer_1 : Fd := ⟨1, [.tmp 2], [], pchart_isCustomer_1b⟩
theorem pchart_isCustomer_1_ag : agreeF Try.prog Try.f89 pchart_isCustomer_1 = true := by kernel_rfl
theorem chart_isCustomer_1_ok {r1 : Int} {r : Bool} (h : chart_isCustomer_1 r1 = some r) : Contract Try.prog 89 [.pv (.int .i32 r1)] [] ⟨.pv (.bool r), [], []⟩ := by
  refine contract_fin hm Try.func89 pchart_isCustomer_1_ag (by kernel_rfl) ?_
  unfold chart_isCustomer_1 at h
  refine W.seqOps (RunR.all (by kernel_rfl)) ?_
  replace h := bindS h
  obtain ⟨c2, hc2, h⟩ := h
  refine W.seqOps (RunR.stat 2 (by kernel_rfl) (RunR.dyn (Step.name (f := eBool) (e := decide (r1 < 32)) (c := c2) (by kernel_rfl) hc2) (RunR.puts 3 [(8, .pv (.bool (c2 || (decide (r1 > 126))))), (7, (bif !c2 then (.pv (.bool (decide (r1 > 126)))) else (.tup []))), (6, (bif !c2 then (.pv (.int .i32 r1)) else (.tup [])))] (by cases c2 <;> kernel_rfl) (RunR.all (by kernel_rfl))))) ?_
  refine W.keep rfl ?_
  cases h
  exact W.ret ((fin_ret (by kernel_rfl)))
def pchart_isCustomerr0 : List GOp := [⟨(some 1), none, .box (.tmp 0)⟩, ⟨(some 2), none, .mov (.cst (.bool false))⟩]
def pchart_isCustomerr1 : List GOp := [⟨(some 3), none, .mov (.cst (.fn 89))⟩]
def pchart_isCustomerr2 : List GOp := [⟨(some 4), none, .fld 0 (.tmp 1)⟩, ⟨(some 5), none, .load false 1 (.tmp 4)⟩, ⟨(some 6), none, .call 0 0 (.cst (.fn 90)) [(.tmp 5), (.cst (.int .i64 1)), (.cst (.int .i64 999))] [] []⟩, ⟨(some 7), none, .mov (.tmp 6)⟩, ⟨(some 8), (some (7, true)), .fld 1 (.tmp 1)⟩, ⟨(some 9), (some (7, true)), .load false 1 (.tmp 8)⟩, ⟨(some 10), (some (7, true)), .len true (.tmp 9)⟩, ⟨(some 11), (some (7, true)), .call 0 0 (.cst (.fn 90)) [(.tmp 10), (.cst (.int .i64 1)), (.cst (.int .i64 32))] [] []⟩, ⟨(some 12), none, .pick (.tmp 7) (.tmp 11) (.cst (.bool false))⟩, ⟨(some 13), none, .mov (.tmp 12)⟩, ⟨(some 14), (some (13, true)), .fld 1 (.tmp 1)⟩, ⟨(some 15), (some (13, true)), .load false 1 (.tmp 14)⟩, ⟨(some 16), (some (13, true)), .mov (.tmp 3)⟩, ⟨(some 17), (some (13, true)), .call 0 0 (.cst (.fn 91)) [(.tmp 15), (.tmp 16)] [] []⟩, ⟨(some 18), (some (13, true)), .un .not (.tmp 17)⟩, ⟨(some 19), none, .pick (.tmp 13) (.tmp 18) (.cst (.bool false))⟩, ⟨(some 20), none, .mov (.tmp 19)⟩, ⟨(some 21), (some (20, true)), .fld 2 (.tmp 1)⟩, ⟨(some 22), (some (20, true)), .load false 1 (.tmp 21)⟩, ⟨(some 23), (some (20, true)), .call 0 0 (.cst (.fn 90)) [(.tmp 22), (.cst (.int .i64 0)), (.cst (.int .i64 3))] [] []⟩, ⟨(some 24), none, .pick (.tmp 20) (.tmp 23) (.cst (.bool false))⟩, ⟨(some 2), none, .mov (.tmp 24)⟩]
def pchart_isCustomerb : AC := (.seq (.ops pchart_isCustomerr0) (.seq (.ops pchart_isCustomerr1) (.seq (.ops pchart_isCustomerr2) (.keep [] [(2, false)] [] [.loc 1 0] [] .ret))))
def pchart_isCustomer : Fd := ⟨1, [.tmp 2], [], pchart_isCustomerb⟩
theorem pchart_isCustomer_ag : agreeF Try.prog Try.f54 pchart_isCustomer = true := by kernel_rfl
theorem chart_isCustomer_ok {x1 : T_api_Customer} {r : Bool} (h : chart_isCustomer x1 = some r) : Contract Try.prog 54 [.pv (T_api_Customer.pv x1)] [] ⟨.pv (.bool r), [], []⟩ := by
  refine contract_fin hm Try.func54 pchart_isCustomer_ag (by kernel_rfl) ?_
  unfold chart_isCustomer at h
  refine W.seqOps (RunR.all (by kernel_rfl)) ?_
  refine W.seqOps (RunR.all (by kernel_rfl)) ?_
  replace h := bindS h
  obtain ⟨x2, hx2, h⟩ := h
  replace h := bindS h
  obtain ⟨x3, hx3, h⟩ := h
  replace h := bindS h
  obtain ⟨c4, hc4, h⟩ := h
  replace h := bindS h
  obtain ⟨x5, hx5, h⟩ := h
  replace h := bindS h
  obtain ⟨c6, hc6, h⟩ := h
  replace h := bindS h
  obtain ⟨x7, hx7, h⟩ := h
  refine W.seqOps (RunR.stat 2 (by kernel_rfl) (RunR.cons (tab_cons (on := true) (fun _ => chart_in_int_ok hx2) tab_nil) (Step.call0 (g := 90) (caps := []) (v := .pv (.bool x2)) (by kernel_rfl) (by kernel_rfl) (by kernel_rfl) (tab_hit (by kernel_rfl)) (by kernel_rfl)) (RunR.stat 1 (by kernel_rfl) (RunR.puts 3 [(10, (bif x2 then (.pv (.int .i64 (x1.f_Name.length : Int))) else (.tup []))), (9, (bif x2 then (.pv (.str x1.f_Name)) else (.tup []))), (8, (bif x2 then (.ptr (.loc 1 0) 1) else (.tup [])))] (by cases x2 <;> kernel_rfl) (RunR.cons (tab_cons (on := x2) (fun hg => chart_in_int_ok (gdO_at hg hx3)) tab_nil) (Step.gdG x2 (by kernel_rfl) (by
        cases x2
        · exact .inl ⟨by kernel_rfl, by kernel_rfl⟩
        · exact .inr ⟨by kernel_rfl, by kernel_rfl, Step.call0 (g := 90) (caps := []) (v := .pv (.bool x3)) (by kernel_rfl) (by kernel_rfl) (by kernel_rfl) (tab_hit (by kernel_rfl)) (by kernel_rfl)⟩)) (RunR.puts 1 [(12, .pv (.bool (x2 && x3)))] (by cases x2 <;> kernel_rfl) (RunR.dyn (Step.name (f := eBool) (e := (x2 && x3)) (c := c4) (by kernel_rfl) hc4) (RunR.puts 3 [(16, (bif c4 then (.pv (.fn 89)) else (.tup []))), (15, (bif c4 then (.pv (.str x1.f_Name)) else (.tup []))), (14, (bif c4 then (.ptr (.loc 1 0) 1) else (.tup [])))] (by cases c4 <;> kernel_rfl) (RunR.cons (tab_cons (on := c4) (fun hg => strings_ContainsFunc91_ok (fun x r h => chart_isCustomer_1_ok h) (gdO_at hg hx5)) tab_nil) (Step.gdG c4 (by kernel_rfl) (by
        cases c4
        · exact .inl ⟨by kernel_rfl, by kernel_rfl⟩
        · exact .inr ⟨by kernel_rfl, by kernel_rfl, Step.call0 (g := 91) (caps := []) (v := .pv (.bool x5)) (by kernel_rfl) (by kernel_rfl) (by kernel_rfl) (tab_hit (by kernel_rfl)) (by kernel_rfl)⟩)) (RunR.puts 2 [(19, .pv (.bool (c4 && (!x5)))), (18, (bif c4 then (.pv (.bool (!x5))) else (.tup [])))] (by cases c4 <;> kernel_rfl) (RunR.dyn (Step.name (f := eBool) (e := (c4 && (!x5))) (c := c6) (by kernel_rfl) hc6) (RunR.puts 2 [(22, (bif c6 then (.pv (.int .i64 x1.f_Kind)) else (.tup []))), (21, (bif c6 then (.ptr (.loc 1 0) 2) else (.tup [])))] (by cases c6 <;> kernel_rfl) (RunR.cons (tab_cons (on := c6) (fun hg => chart_in_int_ok (gdO_at hg hx7)) tab_nil) (Step.gdG c6 (by kernel_rfl) (by
        cases c6
        · exact .inl ⟨by kernel_rfl, by kernel_rfl⟩
        · exact .inr ⟨by kernel_rfl, by kernel_rfl, Step.call0 (g := 90) (caps := []) (v := .pv (.bool x7)) (by kernel_rfl) (by kernel_rfl) (by kernel_rfl) (tab_hit (by kernel_rfl)) (by kernel_rfl)⟩)) (RunR.puts 1 [(24, .pv (.bool (c6 && x7)))] (by cases c6 <;> kernel_rfl) (RunR.all (by kernel_rfl)))))))))))))))) ?_
  refine W.keep rfl ?_
  cases h
  exact W.ret ((fin_ret (by kernel_rfl)))
def pchart_Right_1r0 : List GOp := [⟨(some 1), none, .box (.tmp 0)⟩, ⟨(some 2), none, .mov (.cst (.bool false))⟩]
def pchart_Right_1r1 : List GOp := [⟨(some 3), none, .load true 3 (.tmp 1)⟩, ⟨(some 4), none, .call 0 0 (.cst (.fn 54)) [(.tmp 3)] [] []⟩, ⟨(some 5), none, .un .not (.tmp 4)⟩, ⟨(some 2), none, .mov (.tmp 5)⟩]
def pchart_Right_1b : AC := (.seq (.ops pchart_Right_1r0) (.seq (.ops pchart_Right_1r1) (.keep [] [(2, false)] [] [.loc 1 0] [] .ret)))
def pchart_Right_1 : Fd := ⟨1, [.tmp 2], [], pchart_Right_1b⟩
theorem pchart_Right_1_ag : agreeF Try.prog Try.f68 pchart_Right_1 = true := by kernel_rfl
theorem chart_Right_1_ok {x1 : T_api_Customer} {r : Bool} (h : chart_Right_1 x1 = some r) : Contract Try.prog 68 [.pv (T_api_Customer.pv x1)] [] ⟨.pv (.bool r), [], []⟩ := by
  refine contract_fin hm Try.func68 pchart_Right_1_ag (by kernel_rfl) ?_
  unfold chart_Right_1 at h
  refine W.seqOps (RunR.all (by kernel_rfl)) ?_
  replace h := bindS h
  obtain ⟨x2, hx2, h⟩ := h
  refine W.seqOps (RunR.stat 1 (by kernel_rfl) (RunR.cons (tab_cons (on := true) (fun _ => chart_isCustomer_ok hx2) tab_nil) (Step.call0 (g := 54) (caps := []) (v := .pv (.bool x2)) (by kernel_rfl) (by kernel_rfl) (by kernel_rfl) (tab_hit (by kernel_rfl)) (by kernel_rfl)) (RunR.all (by kernel_rfl)))) ?_
  refine W.keep rfl ?_
  cases h
  exact W.ret ((fin_ret (by kernel_rfl)))
def pslices_IndexFunc_Customer_Customerr0 : List GOp := [⟨(some 4), none, .mov (.cst (.int .i64 0))⟩]
def pslices_IndexFunc_Customer_Customerr1 : List GOp := [⟨(some 6), none, .mov (.tmp 0)⟩, ⟨(some 7), none, .len false (.tmp 6)⟩, ⟨(some 8), none, .mov (.cst (.int .i64 0))⟩]
def pslices_IndexFunc_Customer_Customerr2 : List GOp := [⟨(some 9), none, .bin false .lss (.tmp 8) (.tmp 7)⟩]
def pslices_IndexFunc_Customer_Customerr3 : List GOp := [⟨(some 10), none, .mov (.tmp 8)⟩, ⟨(some 5), none, .mov (.tmp 10)⟩]
def pslices_IndexFunc_Customer_Customerr4 : List GOp := [⟨(some 11), none, .mov (.tmp 1)⟩, ⟨(some 12), none, .mov (.tmp 0)⟩, ⟨(some 13), none, .mov (.tmp 5)⟩, ⟨(some 14), none, .idx 3 (.tmp 12) (.tmp 13)⟩, ⟨(some 15), none, .load true 3 (.tmp 14)⟩, ⟨(some 16), none, .call 0 0 (.tmp 11) [(.tmp 15)] [] []⟩]
def pslices_IndexFunc_Customer_Customerr5 : List GOp := [⟨(some 17), none, .mov (.tmp 5)⟩, ⟨(some 4), none, .mov (.tmp 17)⟩]
def pslices_IndexFunc_Customer_Customerr6 : List GOp := [⟨(some 18), none, .bin false .add (.tmp 8) (.cst (.int .i64 1))⟩, ⟨(some 8), none, .mov (.tmp 18)⟩]
def pslices_IndexFunc_Customer_Customerl7 : AC := (.keep [] [(0, false), (1, false), (7, false), (8, false)] [] [] [] (.seq (.ops pslices_IndexFunc_Customer_Customerr2) (.seq (.cond (.tmp 9) .skip (.exit 0)) (.seq (.pass 1 (.seq (.ops pslices_IndexFunc_Customer_Customerr3) (.seq (.ops pslices_IndexFunc_Customer_Customerr4) (.cond (.tmp 16) (.seq (.ops pslices_IndexFunc_Customer_Customerr5) (.keep [] [(4, false)] [] [] [] .ret)) .skip)))) (.ops pslices_IndexFunc_Customer_Customerr6)))))
def pslices_IndexFunc_Customer_Customerr8 : List GOp := [⟨(some 4), none, .mov (.cst (.int .i64 (-1)))⟩]
def pslices_IndexFunc_Customer_Customerb : AC := (.seq (.ops pslices_IndexFunc_Customer_Customerr0) (.seq (.seq (.ops pslices_IndexFunc_Customer_Customerr1) (.block 0 (.loop [0, 1, 7, 8] [] pslices_IndexFunc_Customer_Customerl7))) (.seq (.keep [] [] [] [] [] (.ops pslices_IndexFunc_Customer_Customerr8)) (.keep [] [(4, false)] [] [] [] .ret))))
def pslices_IndexFunc_Customer_Customer : Fd := ⟨2, [.tmp 4], [], pslices_IndexFunc_Customer_Customerb⟩
theorem pslices_IndexFunc_Customer_Customer_ag : agreeF Try.prog Try.f103 pslices_IndexFunc_Customer_Customer = true := by kernel_rfl
theorem slices_IndexFunc_Customer_Customer_ok {s1 : List T_api_Customer} {r : Int} (h : slices_IndexFunc_Customer_Customer s1 = some r) : Contract Try.prog 103 [.pv (.slice (List.map T_api_Customer.pv s1)), .pv (.fn 68)] [] ⟨.pv (.int .i64 r), [], []⟩ := by
  refine contract_fin hm Try.func103 pslices_IndexFunc_Customer_Customer_ag (by kernel_rfl) ?_
  unfold slices_IndexFunc_Customer_Customer at h
  refine W.seqOps (RunR.all (by kernel_rfl)) ?_
  refine W.assoc ?_
  refine W.seqOps (RunR.stat 1 (by kernel_rfl) (RunR.dyn (Step.lenT (f := T_api_Customer.pv) (l := s1) (by kernel_rfl)) (RunR.all (by kernel_rfl)))) ?_
  replace h := bindS h
  obtain ⟨j2, hj2, h⟩ := h
  refine W.joinOut (j := j2) (o := r) (fun p σ => σ.tidy [] [] [] [] [] = ⟨[], []⟩) ?_ (fun p σj2 hp hsj2 => ?_) (fun p hp => ?_)
  · refine W.blockLoopO (fun q σ => ((σ.forget [0, 1, 7, 8]).killAll []).tidy [] [(0, false), (1, false), (7, false), (8, false)] [] [] [] = ⟨[(0, .pv (.slice (List.map T_api_Customer.pv s1))), (1, .pv (.fn 68)), (7, .pv (.int .i64 (s1.length : Int))), (8, .pv (.int .i64 q))], []⟩) hj2 ?_ ?_
    · exact (by (show _ = _); kernel_rfl)
    · intro x3 σj2 oj2 hJj2 h
      refine W.keep hJj2 ?_
      refine W.seqOps (RunR.all (by kernel_rfl)) ?_
      refine W.seqCond (t := decide (x3 < (s1.length : Int))) (by kernel_rfl) h (fun hc h' => ?_) (fun hc h' => ?_)
      · replace h := h'
        refine W.seqSkip ?_
        refine W.seqPass ?_
        refine W.assoc ?_
        refine W.seqOps (RunR.all (by kernel_rfl)) ?_
        refine W.assoc ?_
        replace h := bindS h
        obtain ⟨x4, hx4, h⟩ := h
        replace h := bindS h
        obtain ⟨x5, hx5, h⟩ := h
        refine W.seqOps (RunR.stat 3 (by kernel_rfl) (RunR.dyn (Step.idxT (f := T_api_Customer.pv) (l := s1) (n := x3) (e := x4) (k := .i64) (by kernel_rfl) (by kernel_rfl) hx4 (by kernel_rfl)) (RunR.stat 1 (by kernel_rfl) (RunR.cons (tab_cons (on := true) (fun _ => chart_Right_1_ok hx5) tab_nil) (Step.call0 (g := 68) (caps := []) (v := .pv (.bool x5)) (by kernel_rfl) (by kernel_rfl) (by kernel_rfl) (tab_hit (by kernel_rfl)) (by kernel_rfl)) ((.nil _)))))) ?_
        refine W.seqCond (t := x5) (by kernel_rfl) h (fun hc h' => ?_) (fun hc h' => ?_)
        · replace h := h'
          refine W.assoc ?_
          refine W.seqOps (RunR.all (by kernel_rfl)) ?_
          refine W.seqKeep rfl ?_
          cases h
          exact W.seqRet ((outw_out ret_ne (bout_o ret_ne ret_ne' (fun e => by subst e; exact (fin_ret (by kernel_rfl))))))
        · replace h := h'
          refine W.seqSkip ?_
          refine W.ops (RunR.all (by kernel_rfl)) ?_
          cases h
          exact (outw_in (by (show _ = _); kernel_rfl))
      · replace h := h'
        cases h
        exact W.seqExit ((outw_out exit_ne (bout_x (by (show _ = _); kernel_rfl))))
  · subst hp
    obtain ⟨⟩ := p
    refine W.seqKeep hsj2 ?_
    refine W.seqOps (RunR.all (by kernel_rfl)) ?_
    refine W.keep rfl ?_
    cases h
    exact W.ret ((fin_ret (by kernel_rfl)))
  · subst hp
    exact Option.some.inj h
def pslices_ContainsFunc_Customer_Customerr0 : List GOp := [⟨(some 4), none, .mov (.cst (.bool false))⟩]
def pslices_ContainsFunc_Customer_Customerr1 : List GOp := [⟨(some 5), none, .mov (.tmp 0)⟩, ⟨(some 6), none, .mov (.tmp 1)⟩, ⟨(some 7), none, .call 0 0 (.cst (.fn 103)) [(.tmp 5), (.tmp 6)] [] []⟩, ⟨(some 8), none, .bin false .geq (.tmp 7) (.cst (.int .i64 0))⟩, ⟨(some 4), none, .mov (.tmp 8)⟩]
def pslices_ContainsFunc_Customer_Customerb : AC := (.seq (.ops pslices_ContainsFunc_Customer_Customerr0) (.seq (.ops pslices_ContainsFunc_Customer_Customerr1) (.keep [] [(4, false)] [] [] [] .ret)))
def pslices_ContainsFunc_Customer_Customer : Fd := ⟨2, [.tmp 4], [], pslices_ContainsFunc_Customer_Customerb⟩
theorem pslices_ContainsFunc_Customer_Customer_ag : agreeF Try.prog Try.f67 pslices_ContainsFunc_Customer_Customer = true := by kernel_rfl
theorem slices_ContainsFunc_Customer_Customer_ok {s1 : List T_api_Customer} {r : Bool} (h : slices_ContainsFunc_Customer_Customer s1 = some r) : Contract Try.prog 67 [.pv (.slice (List.map T_api_Customer.pv s1)), .pv (.fn 68)] [] ⟨.pv (.bool r), [], []⟩ := by
  refine contract_fin hm Try.func67 pslices_ContainsFunc_Customer_Customer_ag (by kernel_rfl) ?_
  unfold slices_ContainsFunc_Customer_Customer at h
  refine W.seqOps (RunR.all (by kernel_rfl)) ?_
  replace h := bindS h
  obtain ⟨x2, hx2, h⟩ := h
  refine W.seqOps (RunR.stat 2 (by kernel_rfl) (RunR.cons (tab_cons (on := true) (fun _ => slices_IndexFunc_Customer_Customer_ok hx2) tab_nil) (Step.call0 (g := 103) (caps := []) (v := .pv (.int .i64 x2)) (by kernel_rfl) (by kernel_rfl) (by kernel_rfl) (tab_hit (by kernel_rfl)) (by kernel_rfl)) (RunR.all (by kernel_rfl)))) ?_
  refine W.keep rfl ?_
  cases h
  exact W.ret ((fin_ret (by kernel_rfl)))
def pcmp_isNaN_intr0 : List GOp := [⟨(some 2), none, .mov (.cst (.bool false))⟩]
def pcmp_isNaN_intr1 : List GOp := [⟨(some 3), none, .mov (.tmp 0)⟩, ⟨(some 4), none, .mov (.tmp 0)⟩, ⟨(some 5), none, .bin false .neq (.tmp 3) (.tmp 4)⟩, ⟨(some 2), none, .mov (.tmp 5)⟩]
def pcmp_isNaN_intb : AC := (.seq (.ops pcmp_isNaN_intr0) (.seq (.ops pcmp_isNaN_intr1) (.keep [] [(2, false)] [] [] [] .ret)))
def pcmp_isNaN_int : Fd := ⟨1, [.tmp 2], [], pcmp_isNaN_intb⟩
theorem pcmp_isNaN_int_ag : agreeF Try.prog Try.f109 pcmp_isNaN_int = true := by kernel_rfl
theorem cmp_isNaN_int_ok {x1 : Int} {r : Bool} (h : cmp_isNaN_int x1 = some r) : Contract Try.prog 109 [.pv (.int .i64 x1)] [] ⟨.pv (.bool r), [], []⟩ := by
  refine contract_fin hm Try.func109 pcmp_isNaN_int_ag (by kernel_rfl) ?_
  unfold cmp_isNaN_int at h
  refine W.seqOps (RunR.all (by kernel_rfl)) ?_
  refine W.seqOps (RunR.all (by kernel_rfl)) ?_
  refine W.keep rfl ?_
  cases h
  exact W.ret ((fin_ret (by kernel_rfl)))
def pcmp_Compare_intr0 : List GOp := [⟨(some 4), none, .mov (.cst (.int .i64 0))⟩]
def pcmp_Compare_intr1 : List GOp := [⟨(some 7), none, .mov (.tmp 0)⟩, ⟨(some 8), none, .call 0 0 (.cst (.fn 109)) [(.tmp 7)] [] []⟩, ⟨(some 5), none, .mov (.tmp 8)⟩]
def pcmp_Compare_intr2 : List GOp := [⟨(some 9), none, .mov (.tmp 1)⟩, ⟨(some 10), none, .call 0 0 (.cst (.fn 109)) [(.tmp 9)] [] []⟩, ⟨(some 6), none, .mov (.tmp 10)⟩]
def pcmp_Compare_intr3 : List GOp := [⟨(some 11), none, .mov (.tmp 5)⟩]
def pcmp_Compare_intr4 : List GOp := [⟨(some 12), none, .mov (.tmp 6)⟩]
def pcmp_Compare_intr5 : List GOp := [⟨(some 4), none, .mov (.cst (.int .i64 0))⟩]
def pcmp_Compare_intr6 : List GOp := [⟨(some 4), none, .mov (.cst (.int .i64 (-1)))⟩]
def pcmp_Compare_intr7 : List GOp := [⟨(some 13), none, .mov (.tmp 6)⟩]
def pcmp_Compare_intr8 : List GOp := [⟨(some 4), none, .mov (.cst (.int .i64 1))⟩]
def pcmp_Compare_intr9 : List GOp := [⟨(some 14), none, .mov (.tmp 0)⟩, ⟨(some 15), none, .mov (.tmp 1)⟩, ⟨(some 16), none, .bin false .lss (.tmp 14) (.tmp 15)⟩]
def pcmp_Compare_intr10 : List GOp := [⟨(some 4), none, .mov (.cst (.int .i64 (-1)))⟩]
def pcmp_Compare_intr11 : List GOp := [⟨(some 17), none, .mov (.tmp 0)⟩, ⟨(some 18), none, .mov (.tmp 1)⟩, ⟨(some 19), none, .bin false .gtr (.tmp 17) (.tmp 18)⟩]
def pcmp_Compare_intr12 : List GOp := [⟨(some 4), none, .mov (.cst (.int .i64 1))⟩]
def pcmp_Compare_intr13 : List GOp := [⟨(some 4), none, .mov (.cst (.int .i64 0))⟩]
def pcmp_Compare_intb : AC := (.seq (.ops pcmp_Compare_intr0) (.seq (.ops pcmp_Compare_intr1) (.seq (.ops pcmp_Compare_intr2) (.seq (.seq (.ops pcmp_Compare_intr3) (.cond (.tmp 11) (.seq (.seq (.ops pcmp_Compare_intr4) (.cond (.tmp 12) (.seq (.ops pcmp_Compare_intr5) (.keep [] [(4, false)] [] [] [] .ret)) .skip)) (.seq (.ops pcmp_Compare_intr6) (.keep [] [(4, false)] [] [] [] .ret))) .skip)) (.seq (.seq (.ops pcmp_Compare_intr7) (.cond (.tmp 13) (.seq (.ops pcmp_Compare_intr8) (.keep [] [(4, false)] [] [] [] .ret)) .skip)) (.seq (.seq (.ops pcmp_Compare_intr9) (.cond (.tmp 16) (.seq (.ops pcmp_Compare_intr10) (.keep [] [(4, false)] [] [] [] .ret)) .skip)) (.seq (.seq (.ops pcmp_Compare_intr11) (.cond (.tmp 19) (.seq (.ops pcmp_Compare_intr12) (.keep [] [(4, false)] [] [] [] .ret)) .skip)) (.seq (.ops pcmp_Compare_intr13) (.keep [] [(4, false)] [] [] [] .ret)))))))))
def pcmp_Compare_int : Fd := ⟨2, [.tmp 4], [], pcmp_Compare_intb⟩
theorem pcmp_Compare_int_ag : agreeF Try.prog Try.f80 pcmp_Compare_int = true := by kernel_rfl
theorem cmp_Compare_int_ok {x1 : Int} {y2 : Int} {r : Int} (h : cmp_Compare_int x1 y2 = some r) : Contract Try.prog 80 [.pv (.int .i64 x1), .pv (.int .i64 y2)] [] ⟨.pv (.int .i64 r), [], []⟩ := by
  refine contract_fin hm Try.func80 pcmp_Compare_int_ag (by kernel_rfl) ?_
  unfold cmp_Compare_int at h
  refine W.seqOps (RunR.all (by kernel_rfl)) ?_
  replace h := bindS h
  obtain ⟨x3, hx3, h⟩ := h
  refine W.seqOps (RunR.stat 1 (by kernel_rfl) (RunR.cons (tab_cons (on := true) (fun _ => cmp_isNaN_int_ok hx3) tab_nil) (Step.call0 (g := 109) (caps := []) (v := .pv (.bool x3)) (by kernel_rfl) (by kernel_rfl) (by kernel_rfl) (tab_hit (by kernel_rfl)) (by kernel_rfl)) (RunR.all (by kernel_rfl)))) ?_
  replace h := bindS h
  obtain ⟨x4, hx4, h⟩ := h
  refine W.seqOps (RunR.stat 1 (by kernel_rfl) (RunR.cons (tab_cons (on := true) (fun _ => cmp_isNaN_int_ok hx4) tab_nil) (Step.call0 (g := 109) (caps := []) (v := .pv (.bool x4)) (by kernel_rfl) (by kernel_rfl) (by kernel_rfl) (tab_hit (by kernel_rfl)) (by kernel_rfl)) (RunR.all (by kernel_rfl)))) ?_
  refine W.assoc ?_
  refine W.seqOps (RunR.all (by kernel_rfl)) ?_
  refine W.seqCond (t := x3) (by kernel_rfl) h (fun hc h' => ?_) (fun hc h' => ?_)
  · replace h := h'
    refine W.assoc ?_
    refine W.assoc ?_
    refine W.seqOps (RunR.all (by kernel_rfl)) ?_
    refine W.seqCond (t := x4) (by kernel_rfl) h (fun hc h' => ?_) (fun hc h' => ?_)
    · replace h := h'
      refine W.assoc ?_
      refine W.seqOps (RunR.all (by kernel_rfl)) ?_
      refine W.seqKeep rfl ?_
      cases h
      exact W.seqRet ((fin_ret (by kernel_rfl)))
    · replace h := h'
      refine W.seqSkip ?_
      refine W.assoc ?_
      refine W.seqOps (RunR.all (by kernel_rfl)) ?_
      refine W.seqKeep rfl ?_
      cases h
      exact W.seqRet ((fin_ret (by kernel_rfl)))
  · replace h := h'
    refine W.seqSkip ?_
    refine W.assoc ?_
    refine W.seqOps (RunR.all (by kernel_rfl)) ?_
    refine W.seqCond (t := x4) (by kernel_rfl) h (fun hc h' => ?_) (fun hc h' => ?_)
    · replace h := h'
      refine W.assoc ?_
      refine W.seqOps (RunR.all (by kernel_rfl)) ?_
      refine W.seqKeep rfl ?_
      cases h
      exact W.seqRet ((fin_ret (by kernel_rfl)))
    · replace h := h'
      refine W.seqSkip ?_
      refine W.assoc ?_
      refine W.seqOps (RunR.all (by kernel_rfl)) ?_
      refine W.seqCond (t := decide (x1 < y2)) (by kernel_rfl) h (fun hc h' => ?_) (fun hc h' => ?_)
      · replace h := h'
        refine W.assoc ?_
        refine W.seqOps (RunR.all (by kernel_rfl)) ?_
        refine W.seqKeep rfl ?_
        cases h
        exact W.seqRet ((fin_ret (by kernel_rfl)))
      · replace h := h'
        refine W.seqSkip ?_
        refine W.assoc ?_
        refine W.seqOps (RunR.all (by kernel_rfl)) ?_
        refine W.seqCond (t := decide (x1 > y2)) (by kernel_rfl) h (fun hc h' => ?_) (fun hc h' => ?_)
        · replace h := h'
          refine W.assoc ?_
          refine W.seqOps (RunR.all (by kernel_rfl)) ?_
          refine W.seqKeep rfl ?_
          cases h
          exact W.seqRet ((fin_ret (by kernel_rfl)))
        · replace h := h'
          refine W.seqSkip ?_
          refine W.seqOps (RunR.all (by kernel_rfl)) ?_
          refine W.keep rfl ?_
          cases h
          exact W.ret ((fin_ret (by kernel_rfl)))
def pchart_place_Customer_int_1r0 : List GOp := [⟨(some 3), none, .box (.tmp 0)⟩, ⟨(some 5), none, .mov (.cst (.int .i64 0))⟩]
def pchart_place_Customer_int_1r1 : List GOp := [⟨(some 6), none, .load false 1 (.tmp 2)⟩, ⟨(some 7), none, .load true 3 (.tmp 3)⟩, ⟨(some 8), none, .call 0 0 (.tmp 6) [(.tmp 7)] [] []⟩, ⟨(some 9), none, .mov (.tmp 1)⟩, ⟨(some 10), none, .call 0 0 (.cst (.fn 80)) [(.tmp 8), (.tmp 9)] [] []⟩, ⟨(some 5), none, .mov (.tmp 10)⟩]
def pchart_place_Customer_int_1b : AC := (.seq (.ops pchart_place_Customer_int_1r0) (.seq (.ops pchart_place_Customer_int_1r1) (.keep [] [(5, false)] [(.ext 0, false)] [.loc 3 0] [] .ret)))
def pchart_place_Customer_int_1 : Fd := ⟨3, [.tmp 5], [], pchart_place_Customer_int_1b⟩
theorem pchart_place_Customer_int_1_ag : agreeF Try.prog Try.f93 pchart_place_Customer_int_1 = true := by kernel_rfl
theorem chart_place_Customer_int_1_ok {x1 : T_api_Customer} {n2 : Int} {r : Int} (h : chart_place_Customer_int_1 x1 n2 = some r) : Contract Try.prog 93 [.pv (T_api_Customer.pv x1), .pv (.int .i64 n2), .ptr (.ext 0) 0] [.box [.pv (.fn 56)]] ⟨.pv (.int .i64 r), [], [(some (.box [.pv (.fn 56)]))]⟩ := by
  refine contract_fin hm Try.func93 pchart_place_Customer_int_1_ag (by kernel_rfl) ?_
  unfold chart_place_Customer_int_1 at h
  refine W.seqOps (RunR.all (by kernel_rfl)) ?_
  replace h := bindS h
  obtain ⟨x3, hx3, h⟩ := h
  replace h := bindS h
  obtain ⟨x4, hx4, h⟩ := h
  refine W.seqOps (RunR.stat 2 (by kernel_rfl) (RunR.cons (tab_cons (on := true) (fun _ => chart_idOf_ok hx3) tab_nil) (Step.call0 (g := 56) (caps := []) (v := .pv (.int .i64 x3)) (by kernel_rfl) (by kernel_rfl) (by kernel_rfl) (tab_hit (by kernel_rfl)) (by kernel_rfl)) (RunR.stat 1 (by kernel_rfl) (RunR.cons (tab_cons (on := true) (fun _ => cmp_Compare_int_ok hx4) tab_nil) (Step.call0 (g := 80) (caps := []) (v := .pv (.int .i64 x4)) (by kernel_rfl) (by kernel_rfl) (by kernel_rfl) (tab_hit (by kernel_rfl)) (by kernel_rfl)) (RunR.all (by kernel_rfl)))))) ?_
  refine W.keep rfl ?_
  cases h
  exact W.ret ((fin_ret (by kernel_rfl)))
def pslices_BinarySearchFunc_Customer_Customer_intr0 : List GOp := [⟨(some 6), none, .mov (.cst (.int .i64 0))⟩, ⟨(some 7), none, .mov (.cst (.bool false))⟩]
def pslices_BinarySearchFunc_Customer_Customer_intr1 : List GOp := [⟨(some 12), none, .mov (.tmp 0)⟩, ⟨(some 13), none, .len false (.tmp 12)⟩, ⟨(some 8), none, .mov (.tmp 13)⟩]
def pslices_BinarySearchFunc_Customer_Customer_intr2 : List GOp := [⟨(some 14), none, .mov (.tmp 8)⟩, ⟨(some 9), none, .mov (.cst (.int .i64 0))⟩, ⟨(some 10), none, .mov (.tmp 14)⟩]
def pslices_BinarySearchFunc_Customer_Customer_intr3 : List GOp := [⟨(some 15), none, .mov (.tmp 9)⟩, ⟨(some 16), none, .mov (.tmp 10)⟩, ⟨(some 17), none, .bin false .lss (.tmp 15) (.tmp 16)⟩]
def pslices_BinarySearchFunc_Customer_Customer_intr4 : List GOp := [⟨(some 18), none, .mov (.tmp 9)⟩, ⟨(some 19), none, .mov (.tmp 10)⟩, ⟨(some 20), none, .bin false .add (.tmp 18) (.tmp 19)⟩, ⟨(some 21), none, .conv .u64 (.tmp 20)⟩, ⟨(some 22), none, .bin false .shr (.tmp 21) (.cst (.int .u64 1))⟩, ⟨(some 23), none, .conv .i64 (.tmp 22)⟩, ⟨(some 11), none, .mov (.tmp 23)⟩]
def pslices_BinarySearchFunc_Customer_Customer_intr5 : List GOp := [⟨(some 24), none, .mov (.tmp 2)⟩, ⟨(some 25), none, .mov (.tmp 0)⟩, ⟨(some 26), none, .mov (.tmp 11)⟩, ⟨(some 27), none, .idx 3 (.tmp 25) (.tmp 26)⟩, ⟨(some 28), none, .load true 3 (.tmp 27)⟩, ⟨(some 29), none, .mov (.tmp 1)⟩, ⟨(some 30), none, .call 0 2 (.tmp 24) [(.tmp 28), (.tmp 29)] [] [.ext 0]⟩, ⟨(some 31), none, .bin false .lss (.tmp 30) (.cst (.int .i64 0))⟩]
def pslices_BinarySearchFunc_Customer_Customer_intr6 : List GOp := [⟨(some 32), none, .mov (.tmp 11)⟩, ⟨(some 33), none, .bin false .add (.tmp 32) (.cst (.int .i64 1))⟩, ⟨(some 9), none, .mov (.tmp 33)⟩]
def pslices_BinarySearchFunc_Customer_Customer_intr7 : List GOp := [⟨(some 34), none, .mov (.tmp 11)⟩, ⟨(some 10), none, .mov (.tmp 34)⟩]
def pslices_BinarySearchFunc_Customer_Customer_intl8 : AC := (.keep [] [(0, false), (1, false), (2, false), (8, false), (9, false), (10, false)] [(.ext 0, false)] [] [] (.seq (.seq (.ops pslices_BinarySearchFunc_Customer_Customer_intr3) (.cond (.tmp 17) .skip (.exit 0))) (.pass 1 (.seq (.ops pslices_BinarySearchFunc_Customer_Customer_intr4) (.seq (.ops pslices_BinarySearchFunc_Customer_Customer_intr5) (.cond (.tmp 31) (.ops pslices_BinarySearchFunc_Customer_Customer_intr6) (.ops pslices_BinarySearchFunc_Customer_Customer_intr7)))))))
def pslices_BinarySearchFunc_Customer_Customer_intr9 : List GOp := [⟨(some 35), none, .mov (.tmp 9)⟩, ⟨(some 36), none, .mov (.tmp 9)⟩, ⟨(some 37), none, .mov (.tmp 8)⟩, ⟨(some 38), none, .bin false .lss (.tmp 36) (.tmp 37)⟩, ⟨(some 39), none, .mov (.tmp 38)⟩, ⟨(some 40), (some (39, true)), .mov (.tmp 2)⟩, ⟨(some 41), (some (39, true)), .mov (.tmp 0)⟩, ⟨(some 42), (some (39, true)), .mov (.tmp 9)⟩, ⟨(some 43), (some (39, true)), .idx 3 (.tmp 41) (.tmp 42)⟩, ⟨(some 44), (some (39, true)), .load true 3 (.tmp 43)⟩, ⟨(some 45), (some (39, true)), .mov (.tmp 1)⟩, ⟨(some 46), (some (39, true)), .call 0 2 (.tmp 40) [(.tmp 44), (.tmp 45)] [] [.ext 0]⟩, ⟨(some 47), (some (39, true)), .bin false .eql (.tmp 46) (.cst (.int .i64 0))⟩, ⟨(some 48), none, .pick (.tmp 39) (.tmp 47) (.cst (.bool false))⟩, ⟨(some 6), none, .mov (.tmp 35)⟩, ⟨(some 7), none, .mov (.tmp 48)⟩]
def pslices_BinarySearchFunc_Customer_Customer_intb : AC := (.seq (.ops pslices_BinarySearchFunc_Customer_Customer_intr0) (.seq (.ops pslices_BinarySearchFunc_Customer_Customer_intr1) (.seq (.ops pslices_BinarySearchFunc_Customer_Customer_intr2) (.seq (.block 0 (.loop [0, 1, 2, 8, 9, 10] [] pslices_BinarySearchFunc_Customer_Customer_intl8)) (.seq (.keep [] [(0, false), (1, false), (2, false), (8, false), (9, false)] [(.ext 0, false)] [] [] (.ops pslices_BinarySearchFunc_Customer_Customer_intr9)) (.keep [] [(6, false), (7, false)] [(.ext 0, false)] [] [] .ret))))))
def pslices_BinarySearchFunc_Customer_Customer_int : Fd := ⟨3, [.tmp 6, .tmp 7], [], pslices_BinarySearchFunc_Customer_Customer_intb⟩
theorem pslices_BinarySearchFunc_Customer_Customer_int_ag : agreeF Try.prog Try.f92 pslices_BinarySearchFunc_Customer_Customer_int = true := by kernel_rfl
theorem slices_BinarySearchFunc_Customer_Customer_int_ok {x1 : List T_api_Customer} {target2 : Int} {r : Int × Bool} (h : slices_BinarySearchFunc_Customer_Customer_int x1 target2 = some r) : Contract Try.prog 92 [.pv (.slice (List.map T_api_Customer.pv x1)), .pv (.int .i64 target2), .fn 93 [.ptr (.ext 0) 0]] [.box [.pv (.fn 56)]] ⟨.tup [.pv (.int .i64 r.1), .pv (.bool r.2)], [], [(some (.box [.pv (.fn 56)]))]⟩ := by
  refine contract_fin hm Try.func92 pslices_BinarySearchFunc_Customer_Customer_int_ag (by kernel_rfl) ?_
  unfold slices_BinarySearchFunc_Customer_Customer_int at h
  refine W.seqOps (RunR.all (by kernel_rfl)) ?_
  refine W.seqOps (RunR.stat 1 (by kernel_rfl) (RunR.dyn (Step.lenT (f := T_api_Customer.pv) (l := x1) (by kernel_rfl)) (RunR.all (by kernel_rfl)))) ?_
  refine W.seqOps (RunR.all (by kernel_rfl)) ?_
  replace h := bindS h
  obtain ⟨j3, hj3, h⟩ := h
  refine W.join (j := j3) (fun p σ => σ.tidy [] [(0, false), (1, false), (2, false), (8, false), (9, false)] [(.ext 0, false)] [] [] = ⟨[(0, .pv (.slice (List.map T_api_Customer.pv x1))), (1, .pv (.int .i64 target2)), (2, .fn 93 [.ptr (.ext 0) 0]), (8, .pv (.int .i64 (x1.length : Int))), (9, .pv (.int .i64 p))], [(.ext 0, .box [.pv (.fn 56)])]⟩) ?_ (fun σj3 hsj3 => ?_)
  · refine W.blockLoop (fun q σ => ((σ.forget [0, 1, 2, 8, 9, 10]).killAll []).tidy [] [(0, false), (1, false), (2, false), (8, false), (9, false), (10, false)] [(.ext 0, false)] [] [] = ⟨[(0, .pv (.slice (List.map T_api_Customer.pv x1))), (1, .pv (.int .i64 target2)), (2, .fn 93 [.ptr (.ext 0) 0]), (8, .pv (.int .i64 (x1.length : Int))), (9, .pv (.int .i64 q.1)), (10, .pv (.int .i64 q.2))], [(.ext 0, .box [.pv (.fn 56)])]⟩) hj3 ?_ ?_
    · exact (by (show _ = _); kernel_rfl)
    · intro q σj3 oj3 hJj3 h
      obtain ⟨i4, j5⟩ := q
      refine W.keep hJj3 ?_
      refine W.assoc ?_
      refine W.seqOps (RunR.all (by kernel_rfl)) ?_
      refine W.seqCond (t := decide (i4 < j5)) (by kernel_rfl) h (fun hc h' => ?_) (fun hc h' => ?_)
      · replace h := h'
        refine W.seqSkip ?_
        refine W.pass ?_
        refine W.seqOps (RunR.all (by kernel_rfl)) ?_
        replace h := bindS h
        obtain ⟨x6, hx6, h⟩ := h
        replace h := bindS h
        obtain ⟨x7, hx7, h⟩ := h
        refine W.seqOps (RunR.stat 3 (by kernel_rfl) (RunR.dyn (Step.idxT (f := T_api_Customer.pv) (l := x1) (n := IntKind.wrap .i64 (Int.fdiv (IntKind.wrap .u64 (IntKind.wrap .i64 (i4 + j5))) 2)) (e := x6) (k := .i64) (by kernel_rfl) (by kernel_rfl) hx6 (by kernel_rfl)) (RunR.stat 2 (by kernel_rfl) (RunR.cons (tab_cons (on := true) (fun _ => chart_place_Customer_int_1_ok hx7) tab_nil) (Step.callG (g := 93) (caps := [.ptr (.ext 0) 0]) (v := .pv (.int .i64 x7)) (ins := []) rfl (by kernel_rfl) (by kernel_rfl) (by kernel_rfl) (tab_hit (by kernel_rfl)) (by kernel_rfl) (by kernel_rfl)) (RunR.all (by kernel_rfl)))))) ?_
        refine W.condI (t := decide (x7 < 0)) (by kernel_rfl) h (fun hc h' => ?_) (fun hc h' => ?_)
        · replace h := h'
          refine W.ops (RunR.all (by kernel_rfl)) ?_
          cases h
          exact (outw_in (by (show _ = _); kernel_rfl))
        · replace h := h'
          refine W.ops (RunR.all (by kernel_rfl)) ?_
          cases h
          exact (outw_in (by (show _ = _); kernel_rfl))
      · replace h := h'
        cases h
        exact W.seqExit ((outw_out exit_ne (bnorm_x (by (show _ = _); kernel_rfl))))
  · refine W.seqKeep hsj3 ?_
    replace h := bindS h
    obtain ⟨c9, hc9, h⟩ := h
    replace h := bindS h
    obtain ⟨x10, hx10, h⟩ := h
    replace h := bindS h
    obtain ⟨x11, hx11, h⟩ := h
    refine W.seqOps (RunR.stat 4 (by kernel_rfl) (RunR.dyn (Step.name (f := eBool) (e := decide (j3 < (x1.length : Int))) (c := c9) (by kernel_rfl) hc9) (RunR.puts 3 [(42, (bif c9 then (.pv (.int .i64 j3)) else (.tup []))), (41, (bif c9 then (.pv (.slice (List.map T_api_Customer.pv x1))) else (.tup []))), (40, (bif c9 then (.fn 93 [.ptr (.ext 0) 0]) else (.tup [])))] (by cases c9 <;> kernel_rfl) (RunR.dyn (Step.gdG c9 (by kernel_rfl) (by
          cases c9
          · exact .inl ⟨by kernel_rfl, by kernel_rfl⟩
          · exact .inr ⟨by kernel_rfl, by kernel_rfl, Step.idxT (f := T_api_Customer.pv) (l := x1) (n := j3) (e := x10) (k := .i64) (by kernel_rfl) (by kernel_rfl) hx10 (by kernel_rfl)⟩)) (RunR.puts 2 [(45, (bif c9 then (.pv (.int .i64 target2)) else (.tup []))), (44, (bif c9 then (.pv (T_api_Customer.pv x10)) else (.tup [])))] (by cases c9 <;> kernel_rfl) (RunR.cons (tab_cons (on := c9) (fun hg => chart_place_Customer_int_1_ok (gdO_at hg hx11)) tab_nil) (Step.gdB c9 (by kernel_rfl) (by
          cases c9
          · exact .inl ⟨by kernel_rfl, by kernel_rfl⟩
          · exact .inr ⟨by kernel_rfl, by kernel_rfl, Step.callBs (g := 93) (caps := [.ptr (.ext 0) 0]) (v := .pv (.int .i64 x11)) rfl (by kernel_rfl) (by kernel_rfl) (by kernel_rfl) (tab_hit (by kernel_rfl)) (by kernel_rfl) (by kernel_rfl)⟩)) (RunR.puts 2 [(48, .pv (.bool (c9 && (x11 == 0)))), (47, (bif c9 then (.pv (.bool (x11 == 0))) else (.tup [])))] (by cases c9 <;> kernel_rfl) (RunR.all (by kernel_rfl))))))))) ?_
    refine W.keep rfl ?_
    cases h
    exact W.ret ((fin_ret (by kernel_rfl)))
def pchart_place_Customer_intr0 : List GOp := [⟨(some 5), none, .box (.tmp 2)⟩, ⟨(some 6), none, .mov (.cst (.int .i64 0))⟩, ⟨(some 7), none, .mov (.cst (.bool false))⟩]
def pchart_place_Customer_intr1 : List GOp := [⟨(some 8), none, .mov (.tmp 0)⟩, ⟨(some 9), none, .mov (.tmp 1)⟩, ⟨(some 10), none, .mkfn 93 [(.tmp 5)]⟩, ⟨(some 11), none, .call 0 2 (.cst (.fn 92)) [(.tmp 8), (.tmp 9), (.tmp 10)] [] [.loc 5 0]⟩, ⟨(some 12), none, .ext 0 (.tmp 11)⟩, ⟨(some 13), none, .ext 1 (.tmp 11)⟩, ⟨(some 6), none, .mov (.tmp 12)⟩, ⟨(some 7), none, .mov (.tmp 13)⟩]
def pchart_place_Customer_intb : AC := (.seq (.ops pchart_place_Customer_intr0) (.seq (.ops pchart_place_Customer_intr1) (.keep [] [(6, false), (7, false)] [] [.loc 5 0] [] .ret)))
def pchart_place_Customer_int : Fd := ⟨3, [.tmp 6, .tmp 7], [], pchart_place_Customer_intb⟩
theorem pchart_place_Customer_int_ag : agreeF Try.prog Try.f55 pchart_place_Customer_int = true := by kernel_rfl
theorem chart_place_Customer_int_ok {l1 : List T_api_Customer} {n2 : Int} {r : Int × Bool} (h : chart_place_Customer_int l1 n2 = some r) : Contract Try.prog 55 [.pv (.slice (List.map T_api_Customer.pv l1)), .pv (.int .i64 n2), .pv (.fn 56)] [] ⟨.tup [.pv (.int .i64 r.1), .pv (.bool r.2)], [], []⟩ := by
  refine contract_fin hm Try.func55 pchart_place_Customer_int_ag (by kernel_rfl) ?_
  unfold chart_place_Customer_int at h
  refine W.seqOps (RunR.all (by kernel_rfl)) ?_
  replace h := bindS h
  obtain ⟨x3, hx3, h⟩ := h
  refine W.seqOps (RunR.stat 3 (by kernel_rfl) (RunR.cons (tab_cons (on := true) (fun _ => slices_BinarySearchFunc_Customer_Customer_int_ok hx3) tab_nil) (Step.callG (g := 92) (caps := []) (v := .tup [.pv (.int .i64 x3.1), .pv (.bool x3.2)]) (ins := []) rfl (by kernel_rfl) (by kernel_rfl) (by kernel_rfl) (tab_hit (by kernel_rfl)) (by kernel_rfl) (by kernel_rfl)) (RunR.all (by kernel_rfl)))) ?_
  refine W.keep rfl ?_
  cases h
  exact W.ret ((fin_ret (by kernel_rfl)))
def pchart_in_Accountr0 : List GOp := [⟨(some 6), none, .mov (.cst (.bool false))⟩]
def pchart_in_Accountr1 : List GOp := [⟨(some 7), none, .mov (.tmp 0)⟩, ⟨(some 8), none, .mov (.tmp 1)⟩, ⟨(some 9), none, .bin false .geq (.tmp 7) (.tmp 8)⟩, ⟨(some 10), none, .mov (.tmp 9)⟩, ⟨(some 11), (some (10, true)), .mov (.tmp 0)⟩, ⟨(some 12), (some (10, true)), .mov (.tmp 2)⟩, ⟨(some 13), (some (10, true)), .bin false .leq (.tmp 11) (.tmp 12)⟩, ⟨(some 14), none, .pick (.tmp 10) (.tmp 13) (.cst (.bool false))⟩, ⟨(some 6), none, .mov (.tmp 14)⟩]
def pchart_in_Accountb : AC := (.seq (.ops pchart_in_Accountr0) (.seq (.ops pchart_in_Accountr1) (.keep [] [(6, false)] [] [] [] .ret)))
def pchart_in_Account : Fd := ⟨3, [.tmp 6], [], pchart_in_Accountb⟩
theorem pchart_in_Account_ag : agreeF Try.prog Try.f96 pchart_in_Account = true := by kernel_rfl
theorem chart_in_Account_ok {n1 : Int} {low2 : Int} {high3 : Int} {r : Bool} (h : chart_in_Account n1 low2 high3 = some r) : Contract Try.prog 96 [.pv (.int .i64 n1), .pv (.int .i64 low2), .pv (.int .i64 high3)] [] ⟨.pv (.bool r), [], []⟩ := by
  refine contract_fin hm Try.func96 pchart_in_Account_ag (by kernel_rfl) ?_
  unfold chart_in_Account at h
  refine W.seqOps (RunR.all (by kernel_rfl)) ?_
  replace h := bindS h
  obtain ⟨c4, hc4, h⟩ := h
  refine W.seqOps (RunR.stat 3 (by kernel_rfl) (RunR.dyn (Step.name (f := eBool) (e := decide (n1 ≥ low2)) (c := c4) (by kernel_rfl) hc4) (RunR.puts 4 [(14, .pv (.bool (c4 && (decide (n1 ≤ high3))))), (13, (bif c4 then (.pv (.bool (decide (n1 ≤ high3)))) else (.tup []))), (12, (bif c4 then (.pv (.int .i64 high3)) else (.tup []))), (11, (bif c4 then (.pv (.int .i64 n1)) else (.tup [])))] (by cases c4 <;> kernel_rfl) (RunR.all (by kernel_rfl))))) ?_
  refine W.keep rfl ?_
  cases h
  exact W.ret ((fin_ret (by kernel_rfl)))
def pchart_in_Currencyr0 : List GOp := [⟨(some 6), none, .mov (.cst (.bool false))⟩]
def pchart_in_Currencyr1 : List GOp := [⟨(some 7), none, .mov (.tmp 0)⟩, ⟨(some 8), none, .mov (.tmp 1)⟩, ⟨(some 9), none, .bin false .geq (.tmp 7) (.tmp 8)⟩, ⟨(some 10), none, .mov (.tmp 9)⟩, ⟨(some 11), (some (10, true)), .mov (.tmp 0)⟩, ⟨(some 12), (some (10, true)), .mov (.tmp 2)⟩, ⟨(some 13), (some (10, true)), .bin false .leq (.tmp 11) (.tmp 12)⟩, ⟨(some 14), none, .pick (.tmp 10) (.tmp 13) (.cst (.bool false))⟩, ⟨(some 6), none, .mov (.tmp 14)⟩]
def pchart_in_Currencyb : AC := (.seq (.ops pchart_in_Currencyr0) (.seq (.ops pchart_in_Currencyr1) (.keep [] [(6, false)] [] [] [] .ret)))
def pchart_in_Currency : Fd := ⟨3, [.tmp 6], [], pchart_in_Currencyb⟩
theorem pchart_in_Currency_ag : agreeF Try.prog Try.f97 pchart_in_Currency = true := by kernel_rfl
theorem chart_in_Currency_ok {n1 : Int} {low2 : Int} {high3 : Int} {r : Bool} (h : chart_in_Currency n1 low2 high3 = some r) : Contract Try.prog 97 [.pv (.int .i64 n1), .pv (.int .i64 low2), .pv (.int .i64 high3)] [] ⟨.pv (.bool r), [], []⟩ := by
  refine contract_fin hm Try.func97 pchart_in_Currency_ag (by kernel_rfl) ?_
  unfold chart_in_Currency at h
  refine W.seqOps (RunR.all (by kernel_rfl)) ?_
  replace h := bindS h
  obtain ⟨c4, hc4, h⟩ := h
  refine W.seqOps (RunR.stat 3 (by kernel_rfl) (RunR.dyn (Step.name (f := eBool) (e := decide (n1 ≥ low2)) (c := c4) (by kernel_rfl) hc4) (RunR.puts 4 [(14, .pv (.bool (c4 && (decide (n1 ≤ high3))))), (13, (bif c4 then (.pv (.bool (decide (n1 ≤ high3)))) else (.tup []))), (12, (bif c4 then (.pv (.int .i64 high3)) else (.tup []))), (11, (bif c4 then (.pv (.int .i64 n1)) else (.tup [])))] (by cases c4 <;> kernel_rfl) (RunR.all (by kernel_rfl))))) ?_
  refine W.keep rfl ?_
  cases h
  exact W.ret ((fin_ret (by kernel_rfl)))
def pdate_Rightr0 : List GOp := [⟨(some 2), none, .mov (.cst (.bool false))⟩]
def pdate_Rightr1 : List GOp := [⟨(some 3), none, .mov (.tmp 0)⟩, ⟨(some 4), none, .bin false .geq (.tmp 3) (.cst (.int .i32 (-50000)))⟩, ⟨(some 5), none, .mov (.tmp 4)⟩, ⟨(some 6), (some (5, true)), .mov (.tmp 0)⟩, ⟨(some 7), (some (5, true)), .bin false .leq (.tmp 6) (.cst (.int .i32 50000))⟩, ⟨(some 8), none, .pick (.tmp 5) (.tmp 7) (.cst (.bool false))⟩, ⟨(some 2), none, .mov (.tmp 8)⟩]
def pdate_Rightb : AC := (.seq (.ops pdate_Rightr0) (.seq (.ops pdate_Rightr1) (.keep [] [(2, false)] [] [] [] .ret)))
def pdate_Right : Fd := ⟨1, [.tmp 2], [], pdate_Rightb⟩
theorem pdate_Right_ag : agreeF Try.prog Try.f64 pdate_Right = true := by kernel_rfl
theorem date_Right_ok {d1 : Int} {r : Bool} (h : date_Right d1 = some r) : Contract Try.prog 64 [.pv (.int .i32 d1)] [] ⟨.pv (.bool r), [], []⟩ := by
  refine contract_fin hm Try.func64 pdate_Right_ag (by kernel_rfl) ?_
  unfold date_Right at h
  refine W.seqOps (RunR.all (by kernel_rfl)) ?_
  replace h := bindS h
  obtain ⟨c2, hc2, h⟩ := h
  refine W.seqOps (RunR.stat 2 (by kernel_rfl) (RunR.dyn (Step.name (f := eBool) (e := decide (d1 ≥ (-50000))) (c := c2) (by kernel_rfl) hc2) (RunR.puts 3 [(8, .pv (.bool (c2 && (decide (d1 ≤ 50000))))), (7, (bif c2 then (.pv (.bool (decide (d1 ≤ 50000)))) else (.tup []))), (6, (bif c2 then (.pv (.int .i32 d1)) else (.tup [])))] (by cases c2 <;> kernel_rfl) (RunR.all (by kernel_rfl))))) ?_
  refine W.keep rfl ?_
  cases h
  exact W.ret ((fin_ret (by kernel_rfl)))
def pchart_isRecordr0 : List GOp := [⟨(some 1), none, .box (.tmp 0)⟩, ⟨(some 2), none, .mov (.cst (.bool false))⟩]
def pchart_isRecordr1 : List GOp := [⟨(some 3), none, .fld 0 (.tmp 1)⟩, ⟨(some 4), none, .load false 1 (.tmp 3)⟩, ⟨(some 5), none, .call 0 0 (.cst (.fn 96)) [(.tmp 4), (.cst (.int .i64 1)), (.cst (.int .i64 999))] [] []⟩, ⟨(some 6), none, .un .not (.tmp 5)⟩, ⟨(some 7), none, .mov (.tmp 6)⟩, ⟨(some 8), (some (7, false)), .fld 1 (.tmp 1)⟩, ⟨(some 9), (some (7, false)), .load false 1 (.tmp 8)⟩, ⟨(some 10), (some (7, false)), .call 0 0 (.cst (.fn 90)) [(.tmp 9), (.cst (.int .i64 0)), (.cst (.int .i64 3))] [] []⟩, ⟨(some 11), (some (7, false)), .un .not (.tmp 10)⟩, ⟨(some 12), none, .pick (.tmp 7) (.cst (.bool true)) (.tmp 11)⟩, ⟨(some 13), none, .mov (.tmp 12)⟩, ⟨(some 14), (some (13, false)), .fld 2 (.tmp 1)⟩, ⟨(some 15), (some (13, false)), .load false 1 (.tmp 14)⟩, ⟨(some 16), (some (13, false)), .call 0 0 (.cst (.fn 97)) [(.tmp 15), (.cst (.int .i64 0)), (.cst (.int .i64 3))] [] []⟩, ⟨(some 17), (some (13, false)), .un .not (.tmp 16)⟩, ⟨(some 18), none, .pick (.tmp 13) (.cst (.bool true)) (.tmp 17)⟩, ⟨(some 19), none, .mov (.tmp 18)⟩, ⟨(some 20), (some (19, false)), .fld 3 (.tmp 1)⟩, ⟨(some 21), (some (19, false)), .load false 1 (.tmp 20)⟩, ⟨(some 22), (some (19, false)), .call 0 0 (.cst (.fn 90)) [(.tmp 21), (.cst (.int .i64 0)), (.cst (.int .i64 999))] [] []⟩, ⟨(some 23), (some (19, false)), .un .not (.tmp 22)⟩, ⟨(some 24), none, .pick (.tmp 19) (.cst (.bool true)) (.tmp 23)⟩]
def pchart_isRecordr2 : List GOp := [⟨(some 2), none, .mov (.cst (.bool false))⟩]
def pchart_isRecordr3 : List GOp := [⟨(some 25), none, .fld 1 (.tmp 1)⟩, ⟨(some 26), none, .load false 1 (.tmp 25)⟩, ⟨(some 27), none, .bin false .geq (.tmp 26) (.cst (.int .i64 2))⟩, ⟨(some 28), none, .mov (.tmp 27)⟩, ⟨(some 29), (some (28, true)), .fld 3 (.tmp 1)⟩, ⟨(some 30), (some (28, true)), .load false 1 (.tmp 29)⟩, ⟨(some 31), (some (28, true)), .bin false .neq (.tmp 30) (.cst (.int .i64 0))⟩, ⟨(some 32), (some (28, true)), .mov (.tmp 31)⟩, ⟨(some 33), (some (32, false)), .fld 4 (.tmp 1)⟩, ⟨(some 34), (some (32, false)), .load false 1 (.tmp 33)⟩, ⟨(some 35), (some (32, false)), .bin false .neq (.tmp 34) (.cst (.int .i64 0))⟩, ⟨(some 36), (some (28, true)), .pick (.tmp 32) (.cst (.bool true)) (.tmp 35)⟩, ⟨(some 37), none, .pick (.tmp 28) (.tmp 36) (.cst (.bool false))⟩]
def pchart_isRecordr4 : List GOp := [⟨(some 2), none, .mov (.cst (.bool false))⟩]
def pchart_isRecordr5 : List GOp := [⟨(some 38), none, .fld 4 (.tmp 1)⟩, ⟨(some 39), none, .load false 1 (.tmp 38)⟩, ⟨(some 40), none, .call 0 0 (.cst (.fn 90)) [(.tmp 39), (.cst (.int .i64 0)), (.cst (.int .i64 20))] [] []⟩, ⟨(some 41), none, .mov (.tmp 40)⟩, ⟨(some 42), (some (41, true)), .fld 5 (.tmp 1)⟩, ⟨(some 43), (some (41, true)), .load false 1 (.tmp 42)⟩, ⟨(some 44), (some (41, true)), .call 0 0 (.cst (.fn 90)) [(.tmp 43), (.cst (.int .i64 0)), (.cst (.int .i64 3))] [] []⟩, ⟨(some 45), none, .pick (.tmp 41) (.tmp 44) (.cst (.bool false))⟩, ⟨(some 46), none, .mov (.tmp 45)⟩, ⟨(some 47), (some (46, true)), .fld 6 (.tmp 1)⟩, ⟨(some 48), (some (46, true)), .load false 1 (.tmp 47)⟩, ⟨(some 49), (some (46, true)), .call 0 0 (.cst (.fn 64)) [(.tmp 48)] [] []⟩, ⟨(some 50), none, .pick (.tmp 46) (.tmp 49) (.cst (.bool false))⟩, ⟨(some 51), none, .mov (.tmp 50)⟩, ⟨(some 52), (some (51, true)), .fld 7 (.tmp 1)⟩, ⟨(some 53), (some (51, true)), .load false 1 (.tmp 52)⟩, ⟨(some 54), (some (51, true)), .call 0 0 (.cst (.fn 64)) [(.tmp 53)] [] []⟩, ⟨(some 55), none, .pick (.tmp 51) (.tmp 54) (.cst (.bool false))⟩, ⟨(some 56), none, .mov (.tmp 55)⟩, ⟨(some 57), (some (56, true)), .fld 6 (.tmp 1)⟩, ⟨(some 58), (some (56, true)), .load false 1 (.tmp 57)⟩, ⟨(some 59), (some (56, true)), .fld 7 (.tmp 1)⟩, ⟨(some 60), (some (56, true)), .load false 1 (.tmp 59)⟩, ⟨(some 61), (some (56, true)), .bin false .leq (.tmp 58) (.tmp 60)⟩, ⟨(some 62), none, .pick (.tmp 56) (.tmp 61) (.cst (.bool false))⟩, ⟨(some 2), none, .mov (.tmp 62)⟩]
def pchart_isRecordb : AC := (.seq (.ops pchart_isRecordr0) (.seq (.seq (.ops pchart_isRecordr1) (.cond (.tmp 24) (.seq (.ops pchart_isRecordr2) (.keep [] [(2, false)] [] [.loc 1 0] [] .ret)) .skip)) (.seq (.seq (.ops pchart_isRecordr3) (.cond (.tmp 37) (.seq (.ops pchart_isRecordr4) (.keep [] [(2, false)] [] [.loc 1 0] [] .ret)) .skip)) (.seq (.ops pchart_isRecordr5) (.keep [] [(2, false)] [] [.loc 1 0] [] .ret)))))
def pchart_isRecord : Fd := ⟨1, [.tmp 2], [], pchart_isRecordb⟩
theorem pchart_isRecord_ag : agreeF Try.prog Try.f60 pchart_isRecord = true := by kernel_rfl
theorem chart_isRecord_ok {r1 : T_api_Record} {r : Bool} (h : chart_isRecord r1 = some r) : Contract Try.prog 60 [.pv (T_api_Record.pv r1)] [] ⟨.pv (.bool r), [], []⟩ := by
  refine contract_fin hm Try.func60 pchart_isRecord_ag (by kernel_rfl) ?_
  unfold chart_isRecord at h
  refine W.seqOps (RunR.all (by kernel_rfl)) ?_
  refine W.assoc ?_
  replace h := bindS h
  obtain ⟨x2, hx2, h⟩ := h
  replace h := bindS h
  obtain ⟨c3, hc3, h⟩ := h
  replace h := bindS h
  obtain ⟨x4, hx4, h⟩ := h
  replace h := bindS h
  obtain ⟨c5, hc5, h⟩ := h
  replace h := bindS h
  obtain ⟨x6, hx6, h⟩ := h
  replace h := bindS h
  obtain ⟨c7, hc7, h⟩ := h
  replace h := bindS h
  obtain ⟨x8, hx8, h⟩ := h
  refine W.seqOps (RunR.stat 2 (by kernel_rfl) (RunR.cons (tab_cons (on := true) (fun _ => chart_in_Account_ok hx2) tab_nil) (Step.call0 (g := 96) (caps := []) (v := .pv (.bool x2)) (by kernel_rfl) (by kernel_rfl) (by kernel_rfl) (tab_hit (by kernel_rfl)) (by kernel_rfl)) (RunR.stat 1 (by kernel_rfl) (RunR.dyn (Step.name (f := eBool) (e := !x2) (c := c3) (by kernel_rfl) hc3) (RunR.puts 2 [(9, (bif !c3 then (.pv (.int .i64 r1.f_Kind)) else (.tup []))), (8, (bif !c3 then (.ptr (.loc 1 0) 1) else (.tup [])))] (by cases c3 <;> kernel_rfl) (RunR.cons (tab_cons (on := (!c3)) (fun hg => chart_in_int_ok (gdO_at hg hx4)) tab_nil) (Step.gdG (!c3) (by kernel_rfl) (by
        cases c3
        · exact .inr ⟨by kernel_rfl, by kernel_rfl, Step.call0 (g := 90) (caps := []) (v := .pv (.bool x4)) (by kernel_rfl) (by kernel_rfl) (by kernel_rfl) (tab_hit (by kernel_rfl)) (by kernel_rfl)⟩
        · exact .inl ⟨by kernel_rfl, by kernel_rfl⟩)) (RunR.puts 2 [(12, .pv (.bool (c3 || (!x4)))), (11, (bif !c3 then (.pv (.bool (!x4))) else (.tup [])))] (by cases c3 <;> kernel_rfl) (RunR.dyn (Step.name (f := eBool) (e := (c3 || (!x4))) (c := c5) (by kernel_rfl) hc5) (RunR.puts 2 [(15, (bif !c5 then (.pv (.int .i64 r1.f_Cur)) else (.tup []))), (14, (bif !c5 then (.ptr (.loc 1 0) 2) else (.tup [])))] (by cases c5 <;> kernel_rfl) (RunR.cons (tab_cons (on := (!c5)) (fun hg => chart_in_Currency_ok (gdO_at hg hx6)) tab_nil) (Step.gdG (!c5) (by kernel_rfl) (by
        cases c5
        · exact .inr ⟨by kernel_rfl, by kernel_rfl, Step.call0 (g := 97) (caps := []) (v := .pv (.bool x6)) (by kernel_rfl) (by kernel_rfl) (by kernel_rfl) (tab_hit (by kernel_rfl)) (by kernel_rfl)⟩
        · exact .inl ⟨by kernel_rfl, by kernel_rfl⟩)) (RunR.puts 2 [(18, .pv (.bool (c5 || (!x6)))), (17, (bif !c5 then (.pv (.bool (!x6))) else (.tup [])))] (by cases c5 <;> kernel_rfl) (RunR.dyn (Step.name (f := eBool) (e := (c5 || (!x6))) (c := c7) (by kernel_rfl) hc7) (RunR.puts 2 [(21, (bif !c7 then (.pv (.int .i64 r1.f_Customer)) else (.tup []))), (20, (bif !c7 then (.ptr (.loc 1 0) 3) else (.tup [])))] (by cases c7 <;> kernel_rfl) (RunR.cons (tab_cons (on := (!c7)) (fun hg => chart_in_int_ok (gdO_at hg hx8)) tab_nil) (Step.gdG (!c7) (by kernel_rfl) (by
        cases c7
        · exact .inr ⟨by kernel_rfl, by kernel_rfl, Step.call0 (g := 90) (caps := []) (v := .pv (.bool x8)) (by kernel_rfl) (by kernel_rfl) (by kernel_rfl) (tab_hit (by kernel_rfl)) (by kernel_rfl)⟩
        · exact .inl ⟨by kernel_rfl, by kernel_rfl⟩)) (RunR.puts 2 [(24, .pv (.bool (c7 || (!x8)))), (23, (bif !c7 then (.pv (.bool (!x8))) else (.tup [])))] (by cases c7 <;> kernel_rfl) ((.nil _))))))))))))))))) ?_
  refine W.seqCond (t := (c7 || (!x8))) (by kernel_rfl) h (fun hc h' => ?_) (fun hc h' => ?_)
  · replace h := h'
    refine W.assoc ?_
    refine W.seqOps (RunR.all (by kernel_rfl)) ?_
    refine W.seqKeep rfl ?_
    cases h
    exact W.seqRet ((fin_ret (by kernel_rfl)))
  · replace h := h'
    refine W.seqSkip ?_
    refine W.assoc ?_
    replace h := bindS h
    obtain ⟨c9, hc9, h⟩ := h
    replace h := bindS h
    obtain ⟨c10, hc10, h⟩ := h
    refine W.seqOps (RunR.stat 3 (by kernel_rfl) (RunR.dyn (Step.name (f := eBool) (e := decide (r1.f_Kind ≥ 2)) (c := c9) (by kernel_rfl) hc9) (RunR.puts 3 [(31, (bif c9 then (.pv (.bool (r1.f_Customer != 0))) else (.tup []))), (30, (bif c9 then (.pv (.int .i64 r1.f_Customer)) else (.tup []))), (29, (bif c9 then (.ptr (.loc 1 0) 3) else (.tup [])))] (by cases c9 <;> kernel_rfl) (RunR.dyn (Step.gdG c9 (by kernel_rfl) (by
          cases c9
          · exact .inl ⟨by kernel_rfl, by kernel_rfl⟩
          · exact .inr ⟨by kernel_rfl, by kernel_rfl, Step.name (f := eBool) (e := (r1.f_Customer != 0)) (c := c10) (by kernel_rfl) hc10⟩)) (RunR.puts 5 [(37, .pv (.bool (c9 && (c10 || (r1.f_Product != 0))))), (36, (bif c9 then (.pv (.bool (c10 || (r1.f_Product != 0)))) else (.tup []))), (35, (bif (c9 && (!c10)) then (.pv (.bool (r1.f_Product != 0))) else (.tup []))), (34, (bif (c9 && (!c10)) then (.pv (.int .i64 r1.f_Product)) else (.tup []))), (33, (bif (c9 && (!c10)) then (.ptr (.loc 1 0) 4) else (.tup [])))] (by cases c9 <;> cases c10 <;> kernel_rfl) ((.nil _))))))) ?_
    refine W.seqCond (t := (c9 && (c10 || (r1.f_Product != 0)))) (by kernel_rfl) h (fun hc h' => ?_) (fun hc h' => ?_)
    · replace h := h'
      refine W.assoc ?_
      refine W.seqOps (RunR.all (by kernel_rfl)) ?_
      refine W.seqKeep rfl ?_
      cases h
      exact W.seqRet ((fin_ret (by kernel_rfl)))
    · replace h := h'
      refine W.seqSkip ?_
      replace h := bindS h
      obtain ⟨x11, hx11, h⟩ := h
      replace h := bindS h
      obtain ⟨x12, hx12, h⟩ := h
      replace h := bindS h
      obtain ⟨c13, hc13, h⟩ := h
      replace h := bindS h
      obtain ⟨x14, hx14, h⟩ := h
      replace h := bindS h
      obtain ⟨c15, hc15, h⟩ := h
      replace h := bindS h
      obtain ⟨x16, hx16, h⟩ := h
      replace h := bindS h
      obtain ⟨c17, hc17, h⟩ := h
      refine W.seqOps (RunR.stat 2 (by kernel_rfl) (RunR.cons (tab_cons (on := true) (fun _ => chart_in_int_ok hx11) tab_nil) (Step.call0 (g := 90) (caps := []) (v := .pv (.bool x11)) (by kernel_rfl) (by kernel_rfl) (by kernel_rfl) (tab_hit (by kernel_rfl)) (by kernel_rfl)) (RunR.stat 1 (by kernel_rfl) (RunR.puts 2 [(43, (bif x11 then (.pv (.int .i64 r1.f_Partition)) else (.tup []))), (42, (bif x11 then (.ptr (.loc 1 0) 5) else (.tup [])))] (by cases x11 <;> kernel_rfl) (RunR.cons (tab_cons (on := x11) (fun hg => chart_in_int_ok (gdO_at hg hx12)) tab_nil) (Step.gdG x11 (by kernel_rfl) (by
            cases x11
            · exact .inl ⟨by kernel_rfl, by kernel_rfl⟩
            · exact .inr ⟨by kernel_rfl, by kernel_rfl, Step.call0 (g := 90) (caps := []) (v := .pv (.bool x12)) (by kernel_rfl) (by kernel_rfl) (by kernel_rfl) (tab_hit (by kernel_rfl)) (by kernel_rfl)⟩)) (RunR.puts 1 [(45, .pv (.bool (x11 && x12)))] (by cases x11 <;> kernel_rfl) (RunR.dyn (Step.name (f := eBool) (e := (x11 && x12)) (c := c13) (by kernel_rfl) hc13) (RunR.puts 2 [(48, (bif c13 then (.pv (.int .i32 r1.f_From)) else (.tup []))), (47, (bif c13 then (.ptr (.loc 1 0) 6) else (.tup [])))] (by cases c13 <;> kernel_rfl) (RunR.cons (tab_cons (on := c13) (fun hg => date_Right_ok (gdO_at hg hx14)) tab_nil) (Step.gdG c13 (by kernel_rfl) (by
            cases c13
            · exact .inl ⟨by kernel_rfl, by kernel_rfl⟩
            · exact .inr ⟨by kernel_rfl, by kernel_rfl, Step.call0 (g := 64) (caps := []) (v := .pv (.bool x14)) (by kernel_rfl) (by kernel_rfl) (by kernel_rfl) (tab_hit (by kernel_rfl)) (by kernel_rfl)⟩)) (RunR.puts 1 [(50, .pv (.bool (c13 && x14)))] (by cases c13 <;> kernel_rfl) (RunR.dyn (Step.name (f := eBool) (e := (c13 && x14)) (c := c15) (by kernel_rfl) hc15) (RunR.puts 2 [(53, (bif c15 then (.pv (.int .i32 r1.f_To)) else (.tup []))), (52, (bif c15 then (.ptr (.loc 1 0) 7) else (.tup [])))] (by cases c15 <;> kernel_rfl) (RunR.cons (tab_cons (on := c15) (fun hg => date_Right_ok (gdO_at hg hx16)) tab_nil) (Step.gdG c15 (by kernel_rfl) (by
            cases c15
            · exact .inl ⟨by kernel_rfl, by kernel_rfl⟩
            · exact .inr ⟨by kernel_rfl, by kernel_rfl, Step.call0 (g := 64) (caps := []) (v := .pv (.bool x16)) (by kernel_rfl) (by kernel_rfl) (by kernel_rfl) (tab_hit (by kernel_rfl)) (by kernel_rfl)⟩)) (RunR.puts 1 [(55, .pv (.bool (c15 && x16)))] (by cases c15 <;> kernel_rfl) (RunR.dyn (Step.name (f := eBool) (e := (c15 && x16)) (c := c17) (by kernel_rfl) hc17) (RunR.puts 6 [(62, .pv (.bool (c17 && (decide (r1.f_From ≤ r1.f_To))))), (61, (bif c17 then (.pv (.bool (decide (r1.f_From ≤ r1.f_To)))) else (.tup []))), (60, (bif c17 then (.pv (.int .i32 r1.f_To)) else (.tup []))), (59, (bif c17 then (.ptr (.loc 1 0) 7) else (.tup []))), (58, (bif c17 then (.pv (.int .i32 r1.f_From)) else (.tup []))), (57, (bif c17 then (.ptr (.loc 1 0) 6) else (.tup [])))] (by cases c17 <;> kernel_rfl) (RunR.all (by kernel_rfl)))))))))))))))))) ?_
      refine W.keep rfl ?_
      cases h
      exact W.ret ((fin_ret (by kernel_rfl)))
def pchart_Right_2r0 : List GOp := [⟨(some 2), none, .box (.tmp 0)⟩, ⟨(some 3), none, .mov (.cst (.bool false))⟩]
def pchart_Right_2r1 : List GOp := [⟨(some 7), none, .fld 0 (.tmp 1)⟩, ⟨(some 8), none, .load false 1 (.tmp 7)⟩, ⟨(some 9), none, .fld 3 (.tmp 2)⟩, ⟨(some 10), none, .load false 1 (.tmp 9)⟩, ⟨(some 11), none, .call 0 0 (.cst (.fn 55)) [(.tmp 8), (.tmp 10), (.cst (.fn 56))] [] []⟩, ⟨(some 6), none, .mov (.tmp 11)⟩, ⟨(some 12), none, .ext 0 (.tmp 6)⟩, ⟨(some 13), none, .ext 1 (.tmp 6)⟩, ⟨(some 4), none, .mov (.tmp 12)⟩, ⟨(some 5), none, .mov (.tmp 13)⟩]
def pchart_Right_2r2 : List GOp := [⟨(some 14), none, .load true 8 (.tmp 2)⟩, ⟨(some 15), none, .call 0 0 (.cst (.fn 60)) [(.tmp 14)] [] []⟩, ⟨(some 16), none, .un .not (.tmp 15)⟩, ⟨(some 17), none, .mov (.tmp 16)⟩, ⟨(some 18), (some (17, false)), .fld 3 (.tmp 2)⟩, ⟨(some 19), (some (17, false)), .load false 1 (.tmp 18)⟩, ⟨(some 20), (some (17, false)), .bin false .gtr (.tmp 19) (.cst (.int .i64 0))⟩, ⟨(some 21), (some (17, false)), .mov (.tmp 20)⟩, ⟨(some 22), (some (21, true)), .mov (.tmp 5)⟩, ⟨(some 23), (some (21, true)), .un .not (.tmp 22)⟩, ⟨(some 24), (some (17, false)), .pick (.tmp 21) (.tmp 23) (.cst (.bool false))⟩, ⟨(some 25), none, .pick (.tmp 17) (.cst (.bool true)) (.tmp 24)⟩, ⟨(some 3), none, .mov (.tmp 25)⟩]
def pchart_Right_2b : AC := (.seq (.ops pchart_Right_2r0) (.seq (.ops pchart_Right_2r1) (.seq (.ops pchart_Right_2r2) (.keep [] [(3, false)] [(.ext 0, false)] [.loc 2 0] [] .ret))))
def pchart_Right_2 : Fd := ⟨2, [.tmp 3], [], pchart_Right_2b⟩
theorem pchart_Right_2_ag : agreeF Try.prog Try.f70 pchart_Right_2 = true := by kernel_rfl
theorem chart_Right_2_ok {r1 : T_api_Record} {e2 : T_api_Chart} {r : Bool} (h : chart_Right_2 r1 e2 = some r) : Contract Try.prog 70 [.pv (T_api_Record.pv r1), .ptr (.ext 0) 0] [.box [.pv (.slice (List.map T_api_Customer.pv e2.f_Customers)), .pv (.slice (List.map T_api_Record.pv e2.f_Records))]] ⟨.pv (.bool r), [], [(some (.box [.pv (.slice (List.map T_api_Customer.pv e2.f_Customers)), .pv (.slice (List.map T_api_Record.pv e2.f_Records))]))]⟩ := by
  refine contract_fin hm Try.func70 pchart_Right_2_ag (by kernel_rfl) ?_
  unfold chart_Right_2 at h
  refine W.seqOps (RunR.all (by kernel_rfl)) ?_
  replace h := bindS h
  obtain ⟨x3, hx3, h⟩ := h
  refine W.seqOps (RunR.stat 4 (by kernel_rfl) (RunR.cons (tab_cons (on := true) (fun _ => chart_place_Customer_int_ok hx3) tab_nil) (Step.call0 (g := 55) (caps := []) (v := .tup [.pv (.int .i64 x3.1), .pv (.bool x3.2)]) (by kernel_rfl) (by kernel_rfl) (by kernel_rfl) (tab_hit (by kernel_rfl)) (by kernel_rfl)) (RunR.all (by kernel_rfl)))) ?_
  replace h := bindS h
  obtain ⟨x4, hx4, h⟩ := h
  replace h := bindS h
  obtain ⟨c5, hc5, h⟩ := h
  replace h := bindS h
  obtain ⟨c6, hc6, h⟩ := h
  refine W.seqOps (RunR.stat 1 (by kernel_rfl) (RunR.cons (tab_cons (on := true) (fun _ => chart_isRecord_ok hx4) tab_nil) (Step.call0 (g := 60) (caps := []) (v := .pv (.bool x4)) (by kernel_rfl) (by kernel_rfl) (by kernel_rfl) (tab_hit (by kernel_rfl)) (by kernel_rfl)) (RunR.stat 1 (by kernel_rfl) (RunR.dyn (Step.name (f := eBool) (e := !x4) (c := c5) (by kernel_rfl) hc5) (RunR.puts 3 [(20, (bif !c5 then (.pv (.bool (decide (r1.f_Customer > 0)))) else (.tup []))), (19, (bif !c5 then (.pv (.int .i64 r1.f_Customer)) else (.tup []))), (18, (bif !c5 then (.ptr (.loc 2 0) 3) else (.tup [])))] (by cases c5 <;> kernel_rfl) (RunR.dyn (Step.gdG (!c5) (by kernel_rfl) (by
        cases c5
        · exact .inr ⟨by kernel_rfl, by kernel_rfl, Step.name (f := eBool) (e := decide (r1.f_Customer > 0)) (c := c6) (by kernel_rfl) hc6⟩
        · exact .inl ⟨by kernel_rfl, by kernel_rfl⟩)) (RunR.puts 4 [(25, .pv (.bool (c5 || (c6 && (!x3.2))))), (24, (bif !c5 then (.pv (.bool (c6 && (!x3.2)))) else (.tup []))), (23, (bif ((!c5) && c6) then (.pv (.bool (!x3.2))) else (.tup []))), (22, (bif ((!c5) && c6) then (.pv (.bool x3.2)) else (.tup [])))] (by cases c5 <;> cases c6 <;> kernel_rfl) (RunR.all (by kernel_rfl))))))))) ?_
  refine W.keep rfl ?_
  cases h
  exact W.ret ((fin_ret (by kernel_rfl)))
def pslices_IndexFunc_Record_Recordr0 : List GOp := [⟨(some 4), none, .mov (.cst (.int .i64 0))⟩]
def pslices_IndexFunc_Record_Recordr1 : List GOp := [⟨(some 6), none, .mov (.tmp 0)⟩, ⟨(some 7), none, .len false (.tmp 6)⟩, ⟨(some 8), none, .mov (.cst (.int .i64 0))⟩]
def pslices_IndexFunc_Record_Recordr2 : List GOp := [⟨(some 9), none, .bin false .lss (.tmp 8) (.tmp 7)⟩]
def pslices_IndexFunc_Record_Recordr3 : List GOp := [⟨(some 10), none, .mov (.tmp 8)⟩, ⟨(some 5), none, .mov (.tmp 10)⟩]
def pslices_IndexFunc_Record_Recordr4 : List GOp := [⟨(some 11), none, .mov (.tmp 1)⟩, ⟨(some 12), none, .mov (.tmp 0)⟩, ⟨(some 13), none, .mov (.tmp 5)⟩, ⟨(some 14), none, .idx 8 (.tmp 12) (.tmp 13)⟩, ⟨(some 15), none, .load true 8 (.tmp 14)⟩, ⟨(some 16), none, .call 0 2 (.tmp 11) [(.tmp 15)] [] [.ext 0]⟩]
def pslices_IndexFunc_Record_Recordr5 : List GOp := [⟨(some 17), none, .mov (.tmp 5)⟩, ⟨(some 4), none, .mov (.tmp 17)⟩]
def pslices_IndexFunc_Record_Recordr6 : List GOp := [⟨(some 18), none, .bin false .add (.tmp 8) (.cst (.int .i64 1))⟩, ⟨(some 8), none, .mov (.tmp 18)⟩]
def pslices_IndexFunc_Record_Recordl7 : AC := (.keep [] [(0, false), (1, false), (7, false), (8, false)] [(.ext 0, false)] [] [] (.seq (.ops pslices_IndexFunc_Record_Recordr2) (.seq (.cond (.tmp 9) .skip (.exit 0)) (.seq (.pass 1 (.seq (.ops pslices_IndexFunc_Record_Recordr3) (.seq (.ops pslices_IndexFunc_Record_Recordr4) (.cond (.tmp 16) (.seq (.ops pslices_IndexFunc_Record_Recordr5) (.keep [] [(4, false)] [(.ext 0, false)] [] [] .ret)) .skip)))) (.ops pslices_IndexFunc_Record_Recordr6)))))
def pslices_IndexFunc_Record_Recordr8 : List GOp := [⟨(some 4), none, .mov (.cst (.int .i64 (-1)))⟩]
def pslices_IndexFunc_Record_Recordb : AC := (.seq (.ops pslices_IndexFunc_Record_Recordr0) (.seq (.seq (.ops pslices_IndexFunc_Record_Recordr1) (.block 0 (.loop [0, 1, 7, 8] [] pslices_IndexFunc_Record_Recordl7))) (.seq (.keep [] [] [(.ext 0, false)] [] [] (.ops pslices_IndexFunc_Record_Recordr8)) (.keep [] [(4, false)] [(.ext 0, false)] [] [] .ret))))
def pslices_IndexFunc_Record_Record : Fd := ⟨2, [.tmp 4], [], pslices_IndexFunc_Record_Recordb⟩
theorem pslices_IndexFunc_Record_Record_ag : agreeF Try.prog Try.f104 pslices_IndexFunc_Record_Record = true := by kernel_rfl
theorem slices_IndexFunc_Record_Record_ok {s1 : List T_api_Record} {e2 : T_api_Chart} {r : Int} (h : slices_IndexFunc_Record_Record s1 e2 = some r) : Contract Try.prog 104 [.pv (.slice (List.map T_api_Record.pv s1)), .fn 70 [.ptr (.ext 0) 0]] [.box [.pv (.slice (List.map T_api_Customer.pv e2.f_Customers)), .pv (.slice (List.map T_api_Record.pv e2.f_Records))]] ⟨.pv (.int .i64 r), [], [(some (.box [.pv (.slice (List.map T_api_Customer.pv e2.f_Customers)), .pv (.slice (List.map T_api_Record.pv e2.f_Records))]))]⟩ := by
  refine contract_fin hm Try.func104 pslices_IndexFunc_Record_Record_ag (by kernel_rfl) ?_
  unfold slices_IndexFunc_Record_Record at h
  refine W.seqOps (RunR.all (by kernel_rfl)) ?_
  refine W.assoc ?_
  refine W.seqOps (RunR.stat 1 (by kernel_rfl) (RunR.dyn (Step.lenT (f := T_api_Record.pv) (l := s1) (by kernel_rfl)) (RunR.all (by kernel_rfl)))) ?_
  replace h := bindS h
  obtain ⟨j3, hj3, h⟩ := h
  refine W.joinOut (j := j3) (o := r) (fun p σ => σ.tidy [] [] [(.ext 0, false)] [] [] = ⟨[], [(.ext 0, .box [.pv (.slice (List.map T_api_Customer.pv e2.f_Customers)), .pv (.slice (List.map T_api_Record.pv e2.f_Records))])]⟩) ?_ (fun p σj3 hp hsj3 => ?_) (fun p hp => ?_)
  · refine W.blockLoopO (fun q σ => ((σ.forget [0, 1, 7, 8]).killAll []).tidy [] [(0, false), (1, false), (7, false), (8, false)] [(.ext 0, false)] [] [] = ⟨[(0, .pv (.slice (List.map T_api_Record.pv s1))), (1, .fn 70 [.ptr (.ext 0) 0]), (7, .pv (.int .i64 (s1.length : Int))), (8, .pv (.int .i64 q))], [(.ext 0, .box [.pv (.slice (List.map T_api_Customer.pv e2.f_Customers)), .pv (.slice (List.map T_api_Record.pv e2.f_Records))])]⟩) hj3 ?_ ?_
    · exact (by (show _ = _); kernel_rfl)
    · intro x4 σj3 oj3 hJj3 h
      refine W.keep hJj3 ?_
      refine W.seqOps (RunR.all (by kernel_rfl)) ?_
      refine W.seqCond (t := decide (x4 < (s1.length : Int))) (by kernel_rfl) h (fun hc h' => ?_) (fun hc h' => ?_)
      · replace h := h'
        refine W.seqSkip ?_
        refine W.seqPass ?_
        refine W.assoc ?_
        refine W.seqOps (RunR.all (by kernel_rfl)) ?_
        refine W.assoc ?_
        replace h := bindS h
        obtain ⟨x5, hx5, h⟩ := h
        replace h := bindS h
        obtain ⟨x6, hx6, h⟩ := h
        refine W.seqOps (RunR.stat 3 (by kernel_rfl) (RunR.dyn (Step.idxT (f := T_api_Record.pv) (l := s1) (n := x4) (e := x5) (k := .i64) (by kernel_rfl) (by kernel_rfl) hx5 (by kernel_rfl)) (RunR.stat 1 (by kernel_rfl) (RunR.cons (tab_cons (on := true) (fun _ => chart_Right_2_ok hx6) tab_nil) (Step.callG (g := 70) (caps := [.ptr (.ext 0) 0]) (v := .pv (.bool x6)) (ins := []) rfl (by kernel_rfl) (by kernel_rfl) (by kernel_rfl) (tab_hit (by kernel_rfl)) (by kernel_rfl) (by kernel_rfl)) ((.nil _)))))) ?_
        refine W.seqCond (t := x6) (by kernel_rfl) h (fun hc h' => ?_) (fun hc h' => ?_)
        · replace h := h'
          refine W.assoc ?_
          refine W.seqOps (RunR.all (by kernel_rfl)) ?_
          refine W.seqKeep rfl ?_
          cases h
          exact W.seqRet ((outw_out ret_ne (bout_o ret_ne ret_ne' (fun e => by subst e; exact (fin_ret (by kernel_rfl))))))
        · replace h := h'
          refine W.seqSkip ?_
          refine W.ops (RunR.all (by kernel_rfl)) ?_
          cases h
          exact (outw_in (by (show _ = _); kernel_rfl))
      · replace h := h'
        cases h
        exact W.seqExit ((outw_out exit_ne (bout_x (by (show _ = _); kernel_rfl))))
  · subst hp
    obtain ⟨⟩ := p
    refine W.seqKeep hsj3 ?_
    refine W.seqOps (RunR.all (by kernel_rfl)) ?_
    refine W.keep rfl ?_
    cases h
    exact W.ret ((fin_ret (by kernel_rfl)))
  · subst hp
    exact Option.some.inj h
def pslices_ContainsFunc_Record_Recordr0 : List GOp := [⟨(some 4), none, .mov (.cst (.bool false))⟩]
def pslices_ContainsFunc_Record_Recordr1 : List GOp := [⟨(some 5), none, .mov (.tmp 0)⟩, ⟨(some 6), none, .mov (.tmp 1)⟩, ⟨(some 7), none, .call 0 2 (.cst (.fn 104)) [(.tmp 5), (.tmp 6)] [] [.ext 0]⟩, ⟨(some 8), none, .bin false .geq (.tmp 7) (.cst (.int .i64 0))⟩, ⟨(some 4), none, .mov (.tmp 8)⟩]
def pslices_ContainsFunc_Record_Recordb : AC := (.seq (.ops pslices_ContainsFunc_Record_Recordr0) (.seq (.ops pslices_ContainsFunc_Record_Recordr1) (.keep [] [(4, false)] [(.ext 0, false)] [] [] .ret)))
def pslices_ContainsFunc_Record_Record : Fd := ⟨2, [.tmp 4], [], pslices_ContainsFunc_Record_Recordb⟩
theorem pslices_ContainsFunc_Record_Record_ag : agreeF Try.prog Try.f69 pslices_ContainsFunc_Record_Record = true := by kernel_rfl
theorem slices_ContainsFunc_Record_Record_ok {s1 : List T_api_Record} {e2 : T_api_Chart} {r : Bool} (h : slices_ContainsFunc_Record_Record s1 e2 = some r) : Contract Try.prog 69 [.pv (.slice (List.map T_api_Record.pv s1)), .fn 70 [.ptr (.ext 0) 0]] [.box [.pv (.slice (List.map T_api_Customer.pv e2.f_Customers)), .pv (.slice (List.map T_api_Record.pv e2.f_Records))]] ⟨.pv (.bool r), [], [(some (.box [.pv (.slice (List.map T_api_Customer.pv e2.f_Customers)), .pv (.slice (List.map T_api_Record.pv e2.f_Records))]))]⟩ := by
  refine contract_fin hm Try.func69 pslices_ContainsFunc_Record_Record_ag (by kernel_rfl) ?_
  unfold slices_ContainsFunc_Record_Record at h
  refine W.seqOps (RunR.all (by kernel_rfl)) ?_
  replace h := bindS h
  obtain ⟨x3, hx3, h⟩ := h
  refine W.seqOps (RunR.stat 2 (by kernel_rfl) (RunR.cons (tab_cons (on := true) (fun _ => slices_IndexFunc_Record_Record_ok hx3) tab_nil) (Step.callG (g := 104) (caps := []) (v := .pv (.int .i64 x3)) (ins := []) rfl (by kernel_rfl) (by kernel_rfl) (by kernel_rfl) (tab_hit (by kernel_rfl)) (by kernel_rfl) (by kernel_rfl)) (RunR.all (by kernel_rfl)))) ?_
  refine W.keep rfl ?_
  cases h
  exact W.ret ((fin_ret (by kernel_rfl)))
def pchart_Rightr0 : List GOp := [⟨(some 1), none, .box (.tmp 0)⟩, ⟨(some 2), none, .mov (.cst (.bool false))⟩]
def pchart_Rightr1 : List GOp := [⟨(some 3), none, .fld 0 (.tmp 1)⟩, ⟨(some 4), none, .load false 1 (.tmp 3)⟩, ⟨(some 5), none, .len false (.tmp 4)⟩, ⟨(some 6), none, .bin false .gtr (.tmp 5) (.cst (.int .i64 100))⟩, ⟨(some 7), none, .mov (.tmp 6)⟩, ⟨(some 8), (some (7, false)), .fld 1 (.tmp 1)⟩, ⟨(some 9), (some (7, false)), .load false 1 (.tmp 8)⟩, ⟨(some 10), (some (7, false)), .len false (.tmp 9)⟩, ⟨(some 11), (some (7, false)), .bin false .gtr (.tmp 10) (.cst (.int .i64 200))⟩, ⟨(some 12), none, .pick (.tmp 7) (.cst (.bool true)) (.tmp 11)⟩, ⟨(some 13), none, .mov (.tmp 12)⟩, ⟨(some 14), (some (13, false)), .fld 0 (.tmp 1)⟩, ⟨(some 15), (some (13, false)), .load false 1 (.tmp 14)⟩, ⟨(some 16), (some (13, false)), .call 0 0 (.cst (.fn 65)) [(.tmp 15), (.cst (.fn 56))] [] []⟩, ⟨(some 17), (some (13, false)), .un .not (.tmp 16)⟩, ⟨(some 18), none, .pick (.tmp 13) (.cst (.bool true)) (.tmp 17)⟩, ⟨(some 19), none, .mov (.tmp 18)⟩, ⟨(some 20), (some (19, false)), .fld 1 (.tmp 1)⟩, ⟨(some 21), (some (19, false)), .load false 1 (.tmp 20)⟩, ⟨(some 22), (some (19, false)), .call 0 0 (.cst (.fn 66)) [(.tmp 21), (.cst (.fn 62))] [] []⟩, ⟨(some 23), (some (19, false)), .un .not (.tmp 22)⟩, ⟨(some 24), none, .pick (.tmp 19) (.cst (.bool true)) (.tmp 23)⟩]
def pchart_Rightr2 : List GOp := [⟨(some 2), none, .mov (.cst (.bool false))⟩]
def pchart_Rightr3 : List GOp := [⟨(some 25), none, .fld 0 (.tmp 1)⟩, ⟨(some 26), none, .load false 1 (.tmp 25)⟩, ⟨(some 27), none, .call 0 0 (.cst (.fn 67)) [(.tmp 26), (.cst (.fn 68))] [] []⟩]
def pchart_Rightr4 : List GOp := [⟨(some 2), none, .mov (.cst (.bool false))⟩]
def pchart_Rightr5 : List GOp := [⟨(some 28), none, .fld 1 (.tmp 1)⟩, ⟨(some 29), none, .load false 1 (.tmp 28)⟩, ⟨(some 30), none, .mkfn 70 [(.tmp 1)]⟩, ⟨(some 31), none, .call 0 2 (.cst (.fn 69)) [(.tmp 29), (.tmp 30)] [] [.loc 1 0]⟩, ⟨(some 32), none, .un .not (.tmp 31)⟩, ⟨(some 2), none, .mov (.tmp 32)⟩]
def pchart_Rightb : AC := (.seq (.ops pchart_Rightr0) (.seq (.seq (.ops pchart_Rightr1) (.cond (.tmp 24) (.seq (.ops pchart_Rightr2) (.keep [] [(2, false)] [] [.loc 1 0] [] .ret)) .skip)) (.seq (.seq (.ops pchart_Rightr3) (.cond (.tmp 27) (.seq (.ops pchart_Rightr4) (.keep [] [(2, false)] [] [.loc 1 0] [] .ret)) .skip)) (.seq (.ops pchart_Rightr5) (.keep [] [(2, false)] [] [.loc 1 0] [] .ret)))))
def pchart_Right : Fd := ⟨1, [.tmp 2], [], pchart_Rightb⟩
theorem pchart_Right_ag : agreeF Try.prog Try.f16 pchart_Right = true := by kernel_rfl
theorem chart_Right_ok {c1 : T_api_Chart} {r : Bool} (h : chart_Right c1 = some r) : Contract Try.prog 16 [.pv (T_api_Chart.pv c1)] [] ⟨.pv (.bool r), [], []⟩ := by
  refine contract_fin hm Try.func16 pchart_Right_ag (by kernel_rfl) ?_
  unfold chart_Right at h
  refine W.seqOps (RunR.all (by kernel_rfl)) ?_
  refine W.assoc ?_
  replace h := bindS h
  obtain ⟨c2, hc2, h⟩ := h
  replace h := bindS h
  obtain ⟨c3, hc3, h⟩ := h
  replace h := bindS h
  obtain ⟨x4, hx4, h⟩ := h
  replace h := bindS h
  obtain ⟨c5, hc5, h⟩ := h
  replace h := bindS h
  obtain ⟨x6, hx6, h⟩ := h
  refine W.seqOps (RunR.stat 2 (by kernel_rfl) (RunR.dyn (Step.lenT (f := T_api_Customer.pv) (l := c1.f_Customers) (by kernel_rfl)) (RunR.stat 1 (by kernel_rfl) (RunR.dyn (Step.name (f := eBool) (e := decide ((c1.f_Customers.length : Int) > 100)) (c := c2) (by kernel_rfl) hc2) (RunR.puts 2 [(9, (bif !c2 then (.pv (.slice (List.map T_api_Record.pv c1.f_Records))) else (.tup []))), (8, (bif !c2 then (.ptr (.loc 1 0) 1) else (.tup [])))] (by cases c2 <;> kernel_rfl) (RunR.dyn (Step.gdG (!c2) (by kernel_rfl) (by
        cases c2
        · exact .inr ⟨by kernel_rfl, by kernel_rfl, Step.lenT (f := T_api_Record.pv) (l := c1.f_Records) (by kernel_rfl)⟩
        · exact .inl ⟨by kernel_rfl, by kernel_rfl⟩)) (RunR.puts 2 [(12, .pv (.bool (c2 || (decide ((c1.f_Records.length : Int) > 200))))), (11, (bif !c2 then (.pv (.bool (decide ((c1.f_Records.length : Int) > 200)))) else (.tup [])))] (by cases c2 <;> kernel_rfl) (RunR.dyn (Step.name (f := eBool) (e := (c2 || (decide ((c1.f_Records.length : Int) > 200)))) (c := c3) (by kernel_rfl) hc3) (RunR.puts 2 [(15, (bif !c3 then (.pv (.slice (List.map T_api_Customer.pv c1.f_Customers))) else (.tup []))), (14, (bif !c3 then (.ptr (.loc 1 0) 0) else (.tup [])))] (by cases c3 <;> kernel_rfl) (RunR.cons (tab_cons (on := (!c3)) (fun hg => chart_rises_Customer_int_ok (gdO_at hg hx4)) tab_nil) (Step.gdG (!c3) (by kernel_rfl) (by
        cases c3
        · exact .inr ⟨by kernel_rfl, by kernel_rfl, Step.call0 (g := 65) (caps := []) (v := .pv (.bool x4)) (by kernel_rfl) (by kernel_rfl) (by kernel_rfl) (tab_hit (by kernel_rfl)) (by kernel_rfl)⟩
        · exact .inl ⟨by kernel_rfl, by kernel_rfl⟩)) (RunR.puts 2 [(18, .pv (.bool (c3 || (!x4)))), (17, (bif !c3 then (.pv (.bool (!x4))) else (.tup [])))] (by cases c3 <;> kernel_rfl) (RunR.dyn (Step.name (f := eBool) (e := (c3 || (!x4))) (c := c5) (by kernel_rfl) hc5) (RunR.puts 2 [(21, (bif !c5 then (.pv (.slice (List.map T_api_Record.pv c1.f_Records))) else (.tup []))), (20, (bif !c5 then (.ptr (.loc 1 0) 1) else (.tup [])))] (by cases c5 <;> kernel_rfl) (RunR.cons (tab_cons (on := (!c5)) (fun hg => chart_rises_Record_Account_ok (gdO_at hg hx6)) tab_nil) (Step.gdG (!c5) (by kernel_rfl) (by
        cases c5
        · exact .inr ⟨by kernel_rfl, by kernel_rfl, Step.call0 (g := 66) (caps := []) (v := .pv (.bool x6)) (by kernel_rfl) (by kernel_rfl) (by kernel_rfl) (tab_hit (by kernel_rfl)) (by kernel_rfl)⟩
        · exact .inl ⟨by kernel_rfl, by kernel_rfl⟩)) (RunR.puts 2 [(24, .pv (.bool (c5 || (!x6)))), (23, (bif !c5 then (.pv (.bool (!x6))) else (.tup [])))] (by cases c5 <;> kernel_rfl) ((.nil _))))))))))))))))) ?_
  refine W.seqCond (t := (c5 || (!x6))) (by kernel_rfl) h (fun hc h' => ?_) (fun hc h' => ?_)
  · replace h := h'
    refine W.assoc ?_
    refine W.seqOps (RunR.all (by kernel_rfl)) ?_
    refine W.seqKeep rfl ?_
    cases h
    exact W.seqRet ((fin_ret (by kernel_rfl)))
  · replace h := h'
    refine W.seqSkip ?_
    refine W.assoc ?_
    replace h := bindS h
    obtain ⟨x7, hx7, h⟩ := h
    refine W.seqOps (RunR.stat 2 (by kernel_rfl) (RunR.cons (tab_cons (on := true) (fun _ => slices_ContainsFunc_Customer_Customer_ok hx7) tab_nil) (Step.call0 (g := 67) (caps := []) (v := .pv (.bool x7)) (by kernel_rfl) (by kernel_rfl) (by kernel_rfl) (tab_hit (by kernel_rfl)) (by kernel_rfl)) ((.nil _)))) ?_
    refine W.seqCond (t := x7) (by kernel_rfl) h (fun hc h' => ?_) (fun hc h' => ?_)
    · replace h := h'
      refine W.assoc ?_
      refine W.seqOps (RunR.all (by kernel_rfl)) ?_
      refine W.seqKeep rfl ?_
      cases h
      exact W.seqRet ((fin_ret (by kernel_rfl)))
    · replace h := h'
      refine W.seqSkip ?_
      replace h := bindS h
      obtain ⟨x8, hx8, h⟩ := h
      refine W.seqOps (RunR.stat 3 (by kernel_rfl) (RunR.cons (tab_cons (on := true) (fun _ => slices_ContainsFunc_Record_Record_ok hx8) tab_nil) (Step.callG (g := 69) (caps := []) (v := .pv (.bool x8)) (ins := []) rfl (by kernel_rfl) (by kernel_rfl) (by kernel_rfl) (tab_hit (by kernel_rfl)) (by kernel_rfl) (by kernel_rfl)) (RunR.all (by kernel_rfl)))) ?_
      refine W.keep rfl ?_
      cases h
      exact W.ret ((fin_ret (by kernel_rfl)))
def pchart_Joinr0 : List GOp := [⟨(some 2), none, .box (.tmp 0)⟩, ⟨(some 3), none, .box (.tmp 1)⟩, ⟨(some 4), none, .alloc [.nils, .nils]⟩, ⟨(some 5), none, .mov (.cst (.int .i64 0))⟩]
def pchart_Joinr1 : List GOp := [⟨(some 8), none, .load true 2 (.tmp 2)⟩, ⟨(some 9), none, .call 0 0 (.cst (.fn 16)) [(.tmp 8)] [] []⟩, ⟨(some 10), none, .un .not (.tmp 9)⟩, ⟨(some 11), none, .mov (.tmp 10)⟩, ⟨(some 12), (some (11, false)), .load true 3 (.tmp 3)⟩, ⟨(some 13), (some (11, false)), .call 0 0 (.cst (.fn 54)) [(.tmp 12)] [] []⟩, ⟨(some 14), (some (11, false)), .un .not (.tmp 13)⟩, ⟨(some 15), none, .pick (.tmp 11) (.cst (.bool true)) (.tmp 14)⟩]
def pchart_Joinr2 : List GOp := [⟨(some 16), none, .build [.nils, .nils] []⟩, ⟨none, none, .store 2 (.tmp 4) (.tmp 16)⟩, ⟨(some 5), none, .mov (.cst (.int .i64 1))⟩]
def pchart_Joinr3 : List GOp := [⟨(some 18), none, .fld 0 (.tmp 2)⟩, ⟨(some 19), none, .load false 1 (.tmp 18)⟩, ⟨(some 20), none, .fld 0 (.tmp 3)⟩, ⟨(some 21), none, .load false 1 (.tmp 20)⟩, ⟨(some 22), none, .call 0 0 (.cst (.fn 55)) [(.tmp 19), (.tmp 21), (.cst (.fn 56))] [] []⟩, ⟨(some 17), none, .mov (.tmp 22)⟩, ⟨(some 23), none, .ext 0 (.tmp 17)⟩, ⟨(some 24), none, .ext 1 (.tmp 17)⟩, ⟨(some 6), none, .mov (.tmp 23)⟩, ⟨(some 7), none, .mov (.tmp 24)⟩]
def pchart_Joinr4 : List GOp := [⟨(some 26), none, .mov (.tmp 7)⟩, ⟨(some 25), none, .mov (.tmp 26)⟩]
def pchart_Joinr5 : List GOp := [⟨(some 27), none, .build [.nils, .nils] []⟩, ⟨none, none, .store 2 (.tmp 4) (.tmp 27)⟩, ⟨(some 5), none, .mov (.cst (.int .i64 26))⟩]
def pchart_Joinr6 : List GOp := [⟨(some 29), none, .fld 0 (.tmp 2)⟩, ⟨(some 30), none, .load false 1 (.tmp 29)⟩, ⟨(some 31), none, .len false (.tmp 30)⟩, ⟨(some 32), none, .bin false .eql (.tmp 31) (.cst (.int .i64 100))⟩, ⟨(some 28), none, .mov (.tmp 32)⟩]
def pchart_Joinr7 : List GOp := [⟨(some 33), none, .build [.nils, .nils] []⟩, ⟨none, none, .store 2 (.tmp 4) (.tmp 33)⟩, ⟨(some 5), none, .mov (.cst (.int .i64 6))⟩]
def pchart_Joinr8 : List GOp := [⟨(some 34), none, .fld 0 (.tmp 2)⟩, ⟨(some 35), none, .load false 1 (.tmp 34)⟩, ⟨(some 36), none, .call 1 0 (.cst (.fn 58)) [(.tmp 35)] [] []⟩, ⟨(some 37), none, .mov (.tmp 6)⟩, ⟨(some 38), none, .load true 3 (.tmp 3)⟩, ⟨(some 39), none, .lit true 3 [(.tmp 38)]⟩, ⟨(some 40), none, .ins 57 3 32 36 (.tmp 37) (.tmp 39)⟩, ⟨(some 41), none, .fld 1 (.tmp 2)⟩, ⟨(some 42), none, .load false 1 (.tmp 41)⟩, ⟨(some 43), none, .call 0 0 (.cst (.fn 59)) [(.tmp 42)] [] []⟩, ⟨(some 44), none, .build [.nils, .nils] [(0, 1, (.tmp 40)), (1, 1, (.tmp 43))]⟩]
def pchart_Joinr8z : List GOp := [⟨none, none, .store 2 (.tmp 4) (.tmp 44)⟩, ⟨(some 5), none, .mov (.cst (.int .i64 0))⟩]
def pchart_Joinb : AC := (.seq (.ops pchart_Joinr0) (.seq (.seq (.ops pchart_Joinr1) (.cond (.tmp 15) (.seq (.ops pchart_Joinr2) (.keep [.loc 40 0] [(4, false), (5, false)] [(.loc 4 0, true)] [.loc 2 0, .loc 3 0, .loc 39 0] [] .ret)) .skip)) (.seq (.ops pchart_Joinr3) (.seq (.pass 0 (.seq (.ops pchart_Joinr4) (.cond (.tmp 25) (.seq (.ops pchart_Joinr5) (.keep [.loc 40 0] [(4, false), (5, false)] [(.loc 4 0, true)] [.loc 2 0, .loc 3 0, .loc 39 0] [] .ret)) (.seq (.ops pchart_Joinr6) (.cond (.tmp 28) (.seq (.ops pchart_Joinr7) (.keep [.loc 40 0] [(4, false), (5, false)] [(.loc 4 0, true)] [.loc 2 0, .loc 3 0, .loc 39 0] [] .ret)) .skip))))) (.seq (.keep [] [(2, false), (3, false), (4, false), (6, false)] [(.loc 2 0, false), (.loc 3 0, false), (.loc 4 0, false)] [] [] (.drawZ [.loc 36 0, .loc 39 0, .loc 40 0] pchart_Joinr8 pchart_Joinr8z)) (.keep [.loc 40 0] [(4, false), (5, false)] [(.loc 4 0, true)] [.loc 2 0, .loc 3 0, .loc 39 0] [] .ret))))))
def pchart_Join : Fd := ⟨2, [.cell 4 true 2, .tmp 5], [], pchart_Joinb⟩
theorem pchart_Join_ag : agreeF Try.prog Try.f13 pchart_Join = true := by kernel_rfl
theorem chart_Join_ok {c1 : T_api_Chart} {x2 : T_api_Customer} {r : T_api_Chart × Int} (h : chart_Join c1 x2 = some r) : Contract Try.prog 13 [.pv (T_api_Chart.pv c1), .pv (T_api_Customer.pv x2)] [] ⟨.tup [.pv (T_api_Chart.pv r.1), .pv (.int .i64 r.2)], [], []⟩ := by
  refine contract_fin hm Try.func13 pchart_Join_ag (by kernel_rfl) ?_
  unfold chart_Join at h
  refine W.seqOps (RunR.all (by kernel_rfl)) ?_
  refine W.assoc ?_
  replace h := bindS h
  obtain ⟨x3, hx3, h⟩ := h
  replace h := bindS h
  obtain ⟨c4, hc4, h⟩ := h
  replace h := bindS h
  obtain ⟨x5, hx5, h⟩ := h
  refine W.seqOps (RunR.stat 1 (by kernel_rfl) (RunR.cons (tab_cons (on := true) (fun _ => chart_Right_ok hx3) tab_nil) (Step.call0 (g := 16) (caps := []) (v := .pv (.bool x3)) (by kernel_rfl) (by kernel_rfl) (by kernel_rfl) (tab_hit (by kernel_rfl)) (by kernel_rfl)) (RunR.stat 1 (by kernel_rfl) (RunR.dyn (Step.name (f := eBool) (e := !x3) (c := c4) (by kernel_rfl) hc4) (RunR.puts 1 [(12, (bif !c4 then (.pv (T_api_Customer.pv x2)) else (.tup [])))] (by cases c4 <;> kernel_rfl) (RunR.cons (tab_cons (on := (!c4)) (fun hg => chart_isCustomer_ok (gdO_at hg hx5)) tab_nil) (Step.gdG (!c4) (by kernel_rfl) (by
        cases c4
        · exact .inr ⟨by kernel_rfl, by kernel_rfl, Step.call0 (g := 54) (caps := []) (v := .pv (.bool x5)) (by kernel_rfl) (by kernel_rfl) (by kernel_rfl) (tab_hit (by kernel_rfl)) (by kernel_rfl)⟩
        · exact .inl ⟨by kernel_rfl, by kernel_rfl⟩)) (RunR.puts 2 [(15, .pv (.bool (c4 || (!x5)))), (14, (bif !c4 then (.pv (.bool (!x5))) else (.tup [])))] (by cases c4 <;> kernel_rfl) ((.nil _))))))))) ?_
  refine W.seqCond (t := (c4 || (!x5))) (by kernel_rfl) h (fun hc h' => ?_) (fun hc h' => ?_)
  · replace h := h'
    refine W.assoc ?_
    refine W.seqOps (RunR.all (by kernel_rfl)) ?_
    refine W.seqKeep rfl ?_
    cases h
    exact W.seqRet ((fin_ret (by kernel_rfl)))
  · replace h := h'
    refine W.seqSkip ?_
    replace h := bindS h
    obtain ⟨x6, hx6, h⟩ := h
    refine W.seqOps (RunR.stat 4 (by kernel_rfl) (RunR.cons (tab_cons (on := true) (fun _ => chart_place_Customer_int_ok hx6) tab_nil) (Step.call0 (g := 55) (caps := []) (v := .tup [.pv (.int .i64 x6.1), .pv (.bool x6.2)]) (by kernel_rfl) (by kernel_rfl) (by kernel_rfl) (tab_hit (by kernel_rfl)) (by kernel_rfl)) (RunR.all (by kernel_rfl)))) ?_
    refine W.seqPass ?_
    refine W.assoc ?_
    refine W.seqOps (RunR.all (by kernel_rfl)) ?_
    refine W.seqCond (t := x6.2) (by kernel_rfl) h (fun hc h' => ?_) (fun hc h' => ?_)
    · replace h := h'
      refine W.assoc ?_
      refine W.seqOps (RunR.all (by kernel_rfl)) ?_
      refine W.seqKeep rfl ?_
      cases h
      exact W.seqRet ((fin_ret (by kernel_rfl)))
    · replace h := h'
      refine W.assoc ?_
      refine W.seqOps (RunR.stat 2 (by kernel_rfl) (RunR.dyn (Step.lenT (f := T_api_Customer.pv) (l := c1.f_Customers) (by kernel_rfl)) (RunR.all (by kernel_rfl)))) ?_
      refine W.seqCond (t := ((c1.f_Customers.length : Int) == 100)) (by kernel_rfl) h (fun hc h' => ?_) (fun hc h' => ?_)
      · replace h := h'
        refine W.assoc ?_
        refine W.seqOps (RunR.all (by kernel_rfl)) ?_
        refine W.seqKeep rfl ?_
        cases h
        exact W.seqRet ((fin_ret (by kernel_rfl)))
      · replace h := h'
        refine W.seqSkip ?_
        replace h := bindS h
        obtain ⟨x7, hx7, h⟩ := h
        replace h := bindS h
        obtain ⟨x8, hx8, h⟩ := h
        replace h := bindS h
        obtain ⟨x9, hx9, h⟩ := h
        refine W.seqKeep rfl ?_
        refine W.seqDrawZ (tab_cons (on := true) (fun _ => slices_Clone58_ok hx7) (tab_cons (on := true) (fun _ => slices_Clone59_ok hx9) tab_nil)) (hI_of (by kernel_rfl) (hI_cons insC57 hI_nil)) (Run.stat 2 (by kernel_rfl) (Run.dyn (Step.callD (g := 58) (caps := []) (v := .own (.loc 36 0)) (ins := [(.loc 36 0, .row 3 (List.map T_api_Customer.pv x7))]) (by kernel_rfl) (by kernel_rfl) (by kernel_rfl) (tab_hit (by kernel_rfl)) (by kernel_rfl)) (Run.stat 3 (by kernel_rfl) (Run.dyn (Step.insT (k := .loc 36 0) (k2 := .loc 39 0) (F := T_api_Customer.pv) (l := x7) (r := x8) (e := x2) (n := x6.1) (by kernel_rfl) (by kernel_rfl) (by kernel_rfl) (by kernel_rfl) (by kernel_rfl) (by kernel_rfl) hx8) (Run.stat 2 (by kernel_rfl) (Run.dyn (Step.call0 (g := 59) (caps := []) (v := .pv (.slice (List.map T_api_Record.pv x9))) (by kernel_rfl) (by kernel_rfl) (by kernel_rfl) (tab_next rfl (tab_hit (by kernel_rfl))) (by kernel_rfl)) (Run.all (by kernel_rfl)))))))) (by kernel_rfl) (RunR.all (by kernel_rfl)) ?_
        refine W.keep rfl ?_
        cases h
        exact W.ret ((fin_ret (by kernel_rfl)))
def pcmp_isNaN_Accountr0 : List GOp := [⟨(some 2), none, .mov (.cst (.bool false))⟩]
def pcmp_isNaN_Accountr1 : List GOp := [⟨(some 3), none, .mov (.tmp 0)⟩, ⟨(some 4), none, .mov (.tmp 0)⟩, ⟨(some 5), none, .bin false .neq (.tmp 3) (.tmp 4)⟩, ⟨(some 2), none, .mov (.tmp 5)⟩]
def pcmp_isNaN_Accountb : AC := (.seq (.ops pcmp_isNaN_Accountr0) (.seq (.ops pcmp_isNaN_Accountr1) (.keep [] [(2, false)] [] [] [] .ret)))
def pcmp_isNaN_Account : Fd := ⟨1, [.tmp 2], [], pcmp_isNaN_Accountb⟩
theorem pcmp_isNaN_Account_ag : agreeF Try.prog Try.f118 pcmp_isNaN_Account = true := by kernel_rfl
theorem cmp_isNaN_Account_ok {x1 : Int} {r : Bool} (h : cmp_isNaN_Account x1 = some r) : Contract Try.prog 118 [.pv (.int .i64 x1)] [] ⟨.pv (.bool r), [], []⟩ := by
  refine contract_fin hm Try.func118 pcmp_isNaN_Account_ag (by kernel_rfl) ?_
  unfold cmp_isNaN_Account at h
  refine W.seqOps (RunR.all (by kernel_rfl)) ?_
  refine W.seqOps (RunR.all (by kernel_rfl)) ?_
  refine W.keep rfl ?_
  cases h
  exact W.ret ((fin_ret (by kernel_rfl)))
def pcmp_Compare_Accountr0 : List GOp := [⟨(some 4), none, .mov (.cst (.int .i64 0))⟩]
def pcmp_Compare_Accountr1 : List GOp := [⟨(some 7), none, .mov (.tmp 0)⟩, ⟨(some 8), none, .call 0 0 (.cst (.fn 118)) [(.tmp 7)] [] []⟩, ⟨(some 5), none, .mov (.tmp 8)⟩]
def pcmp_Compare_Accountr2 : List GOp := [⟨(some 9), none, .mov (.tmp 1)⟩, ⟨(some 10), none, .call 0 0 (.cst (.fn 118)) [(.tmp 9)] [] []⟩, ⟨(some 6), none, .mov (.tmp 10)⟩]
def pcmp_Compare_Accountr3 : List GOp := [⟨(some 11), none, .mov (.tmp 5)⟩]
def pcmp_Compare_Accountr4 : List GOp := [⟨(some 12), none, .mov (.tmp 6)⟩]
def pcmp_Compare_Accountr5 : List GOp := [⟨(some 4), none, .mov (.cst (.int .i64 0))⟩]
def pcmp_Compare_Accountr6 : List GOp := [⟨(some 4), none, .mov (.cst (.int .i64 (-1)))⟩]
def pcmp_Compare_Accountr7 : List GOp := [⟨(some 13), none, .mov (.tmp 6)⟩]
def pcmp_Compare_Accountr8 : List GOp := [⟨(some 4), none, .mov (.cst (.int .i64 1))⟩]
def pcmp_Compare_Accountr9 : List GOp := [⟨(some 14), none, .mov (.tmp 0)⟩, ⟨(some 15), none, .mov (.tmp 1)⟩, ⟨(some 16), none, .bin false .lss (.tmp 14) (.tmp 15)⟩]
def pcmp_Compare_Accountr10 : List GOp := [⟨(some 4), none, .mov (.cst (.int .i64 (-1)))⟩]
def pcmp_Compare_Accountr11 : List GOp := [⟨(some 17), none, .mov (.tmp 0)⟩, ⟨(some 18), none, .mov (.tmp 1)⟩, ⟨(some 19), none, .bin false .gtr (.tmp 17) (.tmp 18)⟩]
def pcmp_Compare_Accountr12 : List GOp := [⟨(some 4), none, .mov (.cst (.int .i64 1))⟩]
def pcmp_Compare_Accountr13 : List GOp := [⟨(some 4), none, .mov (.cst (.int .i64 0))⟩]
def pcmp_Compare_Accountb : AC := (.seq (.ops pcmp_Compare_Accountr0) (.seq (.ops pcmp_Compare_Accountr1) (.seq (.ops pcmp_Compare_Accountr2) (.seq (.seq (.ops pcmp_Compare_Accountr3) (.cond (.tmp 11) (.seq (.seq (.ops pcmp_Compare_Accountr4) (.cond (.tmp 12) (.seq (.ops pcmp_Compare_Accountr5) (.keep [] [(4, false)] [] [] [] .ret)) .skip)) (.seq (.ops pcmp_Compare_Accountr6) (.keep [] [(4, false)] [] [] [] .ret))) .skip)) (.seq (.seq (.ops pcmp_Compare_Accountr7) (.cond (.tmp 13) (.seq (.ops pcmp_Compare_Accountr8) (.keep [] [(4, false)] [] [] [] .ret)) .skip)) (.seq (.seq (.ops pcmp_Compare_Accountr9) (.cond (.tmp 16) (.seq (.ops pcmp_Compare_Accountr10) (.keep [] [(4, false)] [] [] [] .ret)) .skip)) (.seq (.seq (.ops pcmp_Compare_Accountr11) (.cond (.tmp 19) (.seq (.ops pcmp_Compare_Accountr12) (.keep [] [(4, false)] [] [] [] .ret)) .skip)) (.seq (.ops pcmp_Compare_Accountr13) (.keep [] [(4, false)] [] [] [] .ret)))))))))
def pcmp_Compare_Account : Fd := ⟨2, [.tmp 4], [], pcmp_Compare_Accountb⟩
theorem pcmp_Compare_Account_ag : agreeF Try.prog Try.f100 pcmp_Compare_Account = true := by kernel_rfl
theorem cmp_Compare_Account_ok {x1 : Int} {y2 : Int} {r : Int} (h : cmp_Compare_Account x1 y2 = some r) : Contract Try.prog 100 [.pv (.int .i64 x1), .pv (.int .i64 y2)] [] ⟨.pv (.int .i64 r), [], []⟩ := by
  refine contract_fin hm Try.func100 pcmp_Compare_Account_ag (by kernel_rfl) ?_
  unfold cmp_Compare_Account at h
  refine W.seqOps (RunR.all (by kernel_rfl)) ?_
  replace h := bindS h
  obtain ⟨x3, hx3, h⟩ := h
  refine W.seqOps (RunR.stat 1 (by kernel_rfl) (RunR.cons (tab_cons (on := true) (fun _ => cmp_isNaN_Account_ok hx3) tab_nil) (Step.call0 (g := 118) (caps := []) (v := .pv (.bool x3)) (by kernel_rfl) (by kernel_rfl) (by kernel_rfl) (tab_hit (by kernel_rfl)) (by kernel_rfl)) (RunR.all (by kernel_rfl)))) ?_
  replace h := bindS h
  obtain ⟨x4, hx4, h⟩ := h
  refine W.seqOps (RunR.stat 1 (by kernel_rfl) (RunR.cons (tab_cons (on := true) (fun _ => cmp_isNaN_Account_ok hx4) tab_nil) (Step.call0 (g := 118) (caps := []) (v := .pv (.bool x4)) (by kernel_rfl) (by kernel_rfl) (by kernel_rfl) (tab_hit (by kernel_rfl)) (by kernel_rfl)) (RunR.all (by kernel_rfl)))) ?_
  refine W.assoc ?_
  refine W.seqOps (RunR.all (by kernel_rfl)) ?_
  refine W.seqCond (t := x3) (by kernel_rfl) h (fun hc h' => ?_) (fun hc h' => ?_)
  · replace h := h'
    refine W.assoc ?_
    refine W.assoc ?_
    refine W.seqOps (RunR.all (by kernel_rfl)) ?_
    refine W.seqCond (t := x4) (by kernel_rfl) h (fun hc h' => ?_) (fun hc h' => ?_)
    · replace h := h'
      refine W.assoc ?_
      refine W.seqOps (RunR.all (by kernel_rfl)) ?_
      refine W.seqKeep rfl ?_
      cases h
      exact W.seqRet ((fin_ret (by kernel_rfl)))
    · replace h := h'
      refine W.seqSkip ?_
      refine W.assoc ?_
      refine W.seqOps (RunR.all (by kernel_rfl)) ?_
      refine W.seqKeep rfl ?_
      cases h
      exact W.seqRet ((fin_ret (by kernel_rfl)))
  · replace h := h'
    refine W.seqSkip ?_
    refine W.assoc ?_
    refine W.seqOps (RunR.all (by kernel_rfl)) ?_
    refine W.seqCond (t := x4) (by kernel_rfl) h (fun hc h' => ?_) (fun hc h' => ?_)
    · replace h := h'
      refine W.assoc ?_
      refine W.seqOps (RunR.all (by kernel_rfl)) ?_
      refine W.seqKeep rfl ?_
      cases h
      exact W.seqRet ((fin_ret (by kernel_rfl)))
    · replace h := h'
      refine W.seqSkip ?_
      refine W.assoc ?_
      refine W.seqOps (RunR.all (by kernel_rfl)) ?_
      refine W.seqCond (t := decide (x1 < y2)) (by kernel_rfl) h (fun hc h' => ?_) (fun hc h' => ?_)
      · replace h := h'
        refine W.assoc ?_
        refine W.seqOps (RunR.all (by kernel_rfl)) ?_
        refine W.seqKeep rfl ?_
        cases h
        exact W.seqRet ((fin_ret (by kernel_rfl)))
      · replace h := h'
        refine W.seqSkip ?_
        refine W.assoc ?_
        refine W.seqOps (RunR.all (by kernel_rfl)) ?_
        refine W.seqCond (t := decide (x1 > y2)) (by kernel_rfl) h (fun hc h' => ?_) (fun hc h' => ?_)
        · replace h := h'
          refine W.assoc ?_
          refine W.seqOps (RunR.all (by kernel_rfl)) ?_
          refine W.seqKeep rfl ?_
          cases h
          exact W.seqRet ((fin_ret (by kernel_rfl)))
        · replace h := h'
          refine W.seqSkip ?_
          refine W.seqOps (RunR.all (by kernel_rfl)) ?_
          refine W.keep rfl ?_
          cases h
          exact W.ret ((fin_ret (by kernel_rfl)))
def pchart_place_Record_Account_1r0 : List GOp := [⟨(some 3), none, .box (.tmp 0)⟩, ⟨(some 5), none, .mov (.cst (.int .i64 0))⟩]
def pchart_place_Record_Account_1r1 : List GOp := [⟨(some 6), none, .load false 1 (.tmp 2)⟩, ⟨(some 7), none, .load true 8 (.tmp 3)⟩, ⟨(some 8), none, .call 0 0 (.tmp 6) [(.tmp 7)] [] []⟩, ⟨(some 9), none, .mov (.tmp 1)⟩, ⟨(some 10), none, .call 0 0 (.cst (.fn 100)) [(.tmp 8), (.tmp 9)] [] []⟩, ⟨(some 5), none, .mov (.tmp 10)⟩]
def pchart_place_Record_Account_1b : AC := (.seq (.ops pchart_place_Record_Account_1r0) (.seq (.ops pchart_place_Record_Account_1r1) (.keep [] [(5, false)] [(.ext 0, false)] [.loc 3 0] [] .ret)))
def pchart_place_Record_Account_1 : Fd := ⟨3, [.tmp 5], [], pchart_place_Record_Account_1b⟩
theorem pchart_place_Record_Account_1_ag : agreeF Try.prog Try.f99 pchart_place_Record_Account_1 = true := by kernel_rfl
theorem chart_place_Record_Account_1_ok {x1 : T_api_Record} {n2 : Int} {r : Int} (h : chart_place_Record_Account_1 x1 n2 = some r) : Contract Try.prog 99 [.pv (T_api_Record.pv x1), .pv (.int .i64 n2), .ptr (.ext 0) 0] [.box [.pv (.fn 62)]] ⟨.pv (.int .i64 r), [], [(some (.box [.pv (.fn 62)]))]⟩ := by
  refine contract_fin hm Try.func99 pchart_place_Record_Account_1_ag (by kernel_rfl) ?_
  unfold chart_place_Record_Account_1 at h
  refine W.seqOps (RunR.all (by kernel_rfl)) ?_
  replace h := bindS h
  obtain ⟨x3, hx3, h⟩ := h
  replace h := bindS h
  obtain ⟨x4, hx4, h⟩ := h
  refine W.seqOps (RunR.stat 2 (by kernel_rfl) (RunR.cons (tab_cons (on := true) (fun _ => chart_accOf_ok hx3) tab_nil) (Step.call0 (g := 62) (caps := []) (v := .pv (.int .i64 x3)) (by kernel_rfl) (by kernel_rfl) (by kernel_rfl) (tab_hit (by kernel_rfl)) (by kernel_rfl)) (RunR.stat 1 (by kernel_rfl) (RunR.cons (tab_cons (on := true) (fun _ => cmp_Compare_Account_ok hx4) tab_nil) (Step.call0 (g := 100) (caps := []) (v := .pv (.int .i64 x4)) (by kernel_rfl) (by kernel_rfl) (by kernel_rfl) (tab_hit (by kernel_rfl)) (by kernel_rfl)) (RunR.all (by kernel_rfl)))))) ?_
  refine W.keep rfl ?_
  cases h
  exact W.ret ((fin_ret (by kernel_rfl)))
def pslices_BinarySearchFunc_Record_Record_Accountr0 : List GOp := [⟨(some 6), none, .mov (.cst (.int .i64 0))⟩, ⟨(some 7), none, .mov (.cst (.bool false))⟩]
def pslices_BinarySearchFunc_Record_Record_Accountr1 : List GOp := [⟨(some 12), none, .mov (.tmp 0)⟩, ⟨(some 13), none, .len false (.tmp 12)⟩, ⟨(some 8), none, .mov (.tmp 13)⟩]
def pslices_BinarySearchFunc_Record_Record_Accountr2 : List GOp := [⟨(some 14), none, .mov (.tmp 8)⟩, ⟨(some 9), none, .mov (.cst (.int .i64 0))⟩, ⟨(some 10), none, .mov (.tmp 14)⟩]
def pslices_BinarySearchFunc_Record_Record_Accountr3 : List GOp := [⟨(some 15), none, .mov (.tmp 9)⟩, ⟨(some 16), none, .mov (.tmp 10)⟩, ⟨(some 17), none, .bin false .lss (.tmp 15) (.tmp 16)⟩]
def pslices_BinarySearchFunc_Record_Record_Accountr4 : List GOp := [⟨(some 18), none, .mov (.tmp 9)⟩, ⟨(some 19), none, .mov (.tmp 10)⟩, ⟨(some 20), none, .bin false .add (.tmp 18) (.tmp 19)⟩, ⟨(some 21), none, .conv .u64 (.tmp 20)⟩, ⟨(some 22), none, .bin false .shr (.tmp 21) (.cst (.int .u64 1))⟩, ⟨(some 23), none, .conv .i64 (.tmp 22)⟩, ⟨(some 11), none, .mov (.tmp 23)⟩]
def pslices_BinarySearchFunc_Record_Record_Accountr5 : List GOp := [⟨(some 24), none, .mov (.tmp 2)⟩, ⟨(some 25), none, .mov (.tmp 0)⟩, ⟨(some 26), none, .mov (.tmp 11)⟩, ⟨(some 27), none, .idx 8 (.tmp 25) (.tmp 26)⟩, ⟨(some 28), none, .load true 8 (.tmp 27)⟩, ⟨(some 29), none, .mov (.tmp 1)⟩, ⟨(some 30), none, .call 0 2 (.tmp 24) [(.tmp 28), (.tmp 29)] [] [.ext 0]⟩, ⟨(some 31), none, .bin false .lss (.tmp 30) (.cst (.int .i64 0))⟩]
def pslices_BinarySearchFunc_Record_Record_Accountr6 : List GOp := [⟨(some 32), none, .mov (.tmp 11)⟩, ⟨(some 33), none, .bin false .add (.tmp 32) (.cst (.int .i64 1))⟩, ⟨(some 9), none, .mov (.tmp 33)⟩]
def pslices_BinarySearchFunc_Record_Record_Accountr7 : List GOp := [⟨(some 34), none, .mov (.tmp 11)⟩, ⟨(some 10), none, .mov (.tmp 34)⟩]
def pslices_BinarySearchFunc_Record_Record_Accountl8 : AC := (.keep [] [(0, false), (1, false), (2, false), (8, false), (9, false), (10, false)] [(.ext 0, false)] [] [] (.seq (.seq (.ops pslices_BinarySearchFunc_Record_Record_Accountr3) (.cond (.tmp 17) .skip (.exit 0))) (.pass 1 (.seq (.ops pslices_BinarySearchFunc_Record_Record_Accountr4) (.seq (.ops pslices_BinarySearchFunc_Record_Record_Accountr5) (.cond (.tmp 31) (.ops pslices_BinarySearchFunc_Record_Record_Accountr6) (.ops pslices_BinarySearchFunc_Record_Record_Accountr7)))))))
def pslices_BinarySearchFunc_Record_Record_Accountr9 : List GOp := [⟨(some 35), none, .mov (.tmp 9)⟩, ⟨(some 36), none, .mov (.tmp 9)⟩, ⟨(some 37), none, .mov (.tmp 8)⟩, ⟨(some 38), none, .bin false .lss (.tmp 36) (.tmp 37)⟩, ⟨(some 39), none, .mov (.tmp 38)⟩, ⟨(some 40), (some (39, true)), .mov (.tmp 2)⟩, ⟨(some 41), (some (39, true)), .mov (.tmp 0)⟩, ⟨(some 42), (some (39, true)), .mov (.tmp 9)⟩, ⟨(some 43), (some (39, true)), .idx 8 (.tmp 41) (.tmp 42)⟩, ⟨(some 44), (some (39, true)), .load true 8 (.tmp 43)⟩, ⟨(some 45), (some (39, true)), .mov (.tmp 1)⟩, ⟨(some 46), (some (39, true)), .call 0 2 (.tmp 40) [(.tmp 44), (.tmp 45)] [] [.ext 0]⟩, ⟨(some 47), (some (39, true)), .bin false .eql (.tmp 46) (.cst (.int .i64 0))⟩, ⟨(some 48), none, .pick (.tmp 39) (.tmp 47) (.cst (.bool false))⟩, ⟨(some 6), none, .mov (.tmp 35)⟩, ⟨(some 7), none, .mov (.tmp 48)⟩]
def pslices_BinarySearchFunc_Record_Record_Accountb : AC := (.seq (.ops pslices_BinarySearchFunc_Record_Record_Accountr0) (.seq (.ops pslices_BinarySearchFunc_Record_Record_Accountr1) (.seq (.ops pslices_BinarySearchFunc_Record_Record_Accountr2) (.seq (.block 0 (.loop [0, 1, 2, 8, 9, 10] [] pslices_BinarySearchFunc_Record_Record_Accountl8)) (.seq (.keep [] [(0, false), (1, false), (2, false), (8, false), (9, false)] [(.ext 0, false)] [] [] (.ops pslices_BinarySearchFunc_Record_Record_Accountr9)) (.keep [] [(6, false), (7, false)] [(.ext 0, false)] [] [] .ret))))))
def pslices_BinarySearchFunc_Record_Record_Account : Fd := ⟨3, [.tmp 6, .tmp 7], [], pslices_BinarySearchFunc_Record_Record_Accountb⟩
theorem pslices_BinarySearchFunc_Record_Record_Account_ag : agreeF Try.prog Try.f98 pslices_BinarySearchFunc_Record_Record_Account = true := by kernel_rfl
theorem slices_BinarySearchFunc_Record_Record_Account_ok {x1 : List T_api_Record} {target2 : Int} {r : Int × Bool} (h : slices_BinarySearchFunc_Record_Record_Account x1 target2 = some r) : Contract Try.prog 98 [.pv (.slice (List.map T_api_Record.pv x1)), .pv (.int .i64 target2), .fn 99 [.ptr (.ext 0) 0]] [.box [.pv (.fn 62)]] ⟨.tup [.pv (.int .i64 r.1), .pv (.bool r.2)], [], [(some (.box [.pv (.fn 62)]))]⟩ := by
  refine contract_fin hm Try.func98 pslices_BinarySearchFunc_Record_Record_Account_ag (by kernel_rfl) ?_
  unfold slices_BinarySearchFunc_Record_Record_Account at h
  refine W.seqOps (RunR.all (by kernel_rfl)) ?_
  refine W.seqOps (RunR.stat 1 (by kernel_rfl) (RunR.dyn (Step.lenT (f := T_api_Record.pv) (l := x1) (by kernel_rfl)) (RunR.all (by kernel_rfl)))) ?_
  refine W.seqOps (RunR.all (by kernel_rfl)) ?_
  replace h := bindS h
  obtain ⟨j3, hj3, h⟩ := h
  refine W.join (j := j3) (fun p σ => σ.tidy [] [(0, false), (1, false), (2, false), (8, false), (9, false)] [(.ext 0, false)] [] [] = ⟨[(0, .pv (.slice (List.map T_api_Record.pv x1))), (1, .pv (.int .i64 target2)), (2, .fn 99 [.ptr (.ext 0) 0]), (8, .pv (.int .i64 (x1.length : Int))), (9, .pv (.int .i64 p))], [(.ext 0, .box [.pv (.fn 62)])]⟩) ?_ (fun σj3 hsj3 => ?_)
  · refine W.blockLoop (fun q σ => ((σ.forget [0, 1, 2, 8, 9, 10]).killAll []).tidy [] [(0, false), (1, false), (2, false), (8, false), (9, false), (10, false)] [(.ext 0, false)] [] [] = ⟨[(0, .pv (.slice (List.map T_api_Record.pv x1))), (1, .pv (.int .i64 target2)), (2, .fn 99 [.ptr (.ext 0) 0]), (8, .pv (.int .i64 (x1.length : Int))), (9, .pv (.int .i64 q.1)), (10, .pv (.int .i64 q.2))], [(.ext 0, .box [.pv (.fn 62)])]⟩) hj3 ?_ ?_
    · exact (by (show _ = _); kernel_rfl)
    · intro q σj3 oj3 hJj3 h
      obtain ⟨i4, j5⟩ := q
      refine W.keep hJj3 ?_
      refine W.assoc ?_
      refine W.seqOps (RunR.all (by kernel_rfl)) ?_
      refine W.seqCond (t := decide (i4 < j5)) (by kernel_rfl) h (fun hc h' => ?_) (fun hc h' => ?_)
      · replace h := h'
        refine W.seqSkip ?_
        refine W.pass ?_
        refine W.seqOps (RunR.all (by kernel_rfl)) ?_
        replace h := bindS h
        obtain ⟨x6, hx6, h⟩ := h
        replace h := bindS h
        obtain ⟨x7, hx7, h⟩ := h
        refine W.seqOps (RunR.stat 3 (by kernel_rfl) (RunR.dyn (Step.idxT (f := T_api_Record.pv) (l := x1) (n := IntKind.wrap .i64 (Int.fdiv (IntKind.wrap .u64 (IntKind.wrap .i64 (i4 + j5))) 2)) (e := x6) (k := .i64) (by kernel_rfl) (by kernel_rfl) hx6 (by kernel_rfl)) (RunR.stat 2 (by kernel_rfl) (RunR.cons (tab_cons (on := true) (fun _ => chart_place_Record_Account_1_ok hx7) tab_nil) (Step.callG (g := 99) (caps := [.ptr (.ext 0) 0]) (v := .pv (.int .i64 x7)) (ins := []) rfl (by kernel_rfl) (by kernel_rfl) (by kernel_rfl) (tab_hit (by kernel_rfl)) (by kernel_rfl) (by kernel_rfl)) (RunR.all (by kernel_rfl)))))) ?_
        refine W.condI (t := decide (x7 < 0)) (by kernel_rfl) h (fun hc h' => ?_) (fun hc h' => ?_)
        · replace h := h'
          refine W.ops (RunR.all (by kernel_rfl)) ?_
          cases h
          exact (outw_in (by (show _ = _); kernel_rfl))
        · replace h := h'
          refine W.ops (RunR.all (by kernel_rfl)) ?_
          cases h
          exact (outw_in (by (show _ = _); kernel_rfl))
      · replace h := h'
        cases h
        exact W.seqExit ((outw_out exit_ne (bnorm_x (by (show _ = _); kernel_rfl))))
  · refine W.seqKeep hsj3 ?_
    replace h := bindS h
    obtain ⟨c9, hc9, h⟩ := h
    replace h := bindS h
    obtain ⟨x10, hx10, h⟩ := h
    replace h := bindS h
    obtain ⟨x11, hx11, h⟩ := h
    refine W.seqOps (RunR.stat 4 (by kernel_rfl) (RunR.dyn (Step.name (f := eBool) (e := decide (j3 < (x1.length : Int))) (c := c9) (by kernel_rfl) hc9) (RunR.puts 3 [(42, (bif c9 then (.pv (.int .i64 j3)) else (.tup []))), (41, (bif c9 then (.pv (.slice (List.map T_api_Record.pv x1))) else (.tup []))), (40, (bif c9 then (.fn 99 [.ptr (.ext 0) 0]) else (.tup [])))] (by cases c9 <;> kernel_rfl) (RunR.dyn (Step.gdG c9 (by kernel_rfl) (by
          cases c9
          · exact .inl ⟨by kernel_rfl, by kernel_rfl⟩
          · exact .inr ⟨by kernel_rfl, by kernel_rfl, Step.idxT (f := T_api_Record.pv) (l := x1) (n := j3) (e := x10) (k := .i64) (by kernel_rfl) (by kernel_rfl) hx10 (by kernel_rfl)⟩)) (RunR.puts 2 [(45, (bif c9 then (.pv (.int .i64 target2)) else (.tup []))), (44, (bif c9 then (.pv (T_api_Record.pv x10)) else (.tup [])))] (by cases c9 <;> kernel_rfl) (RunR.cons (tab_cons (on := c9) (fun hg => chart_place_Record_Account_1_ok (gdO_at hg hx11)) tab_nil) (Step.gdB c9 (by kernel_rfl) (by
          cases c9
          · exact .inl ⟨by kernel_rfl, by kernel_rfl⟩
          · exact .inr ⟨by kernel_rfl, by kernel_rfl, Step.callBs (g := 99) (caps := [.ptr (.ext 0) 0]) (v := .pv (.int .i64 x11)) rfl (by kernel_rfl) (by kernel_rfl) (by kernel_rfl) (tab_hit (by kernel_rfl)) (by kernel_rfl) (by kernel_rfl)⟩)) (RunR.puts 2 [(48, .pv (.bool (c9 && (x11 == 0)))), (47, (bif c9 then (.pv (.bool (x11 == 0))) else (.tup [])))] (by cases c9 <;> kernel_rfl) (RunR.all (by kernel_rfl))))))))) ?_
    refine W.keep rfl ?_
    cases h
    exact W.ret ((fin_ret (by kernel_rfl)))
def pchart_place_Record_Accountr0 : List GOp := [⟨(some 5), none, .box (.tmp 2)⟩, ⟨(some 6), none, .mov (.cst (.int .i64 0))⟩, ⟨(some 7), none, .mov (.cst (.bool false))⟩]
def pchart_place_Record_Accountr1 : List GOp := [⟨(some 8), none, .mov (.tmp 0)⟩, ⟨(some 9), none, .mov (.tmp 1)⟩, ⟨(some 10), none, .mkfn 99 [(.tmp 5)]⟩, ⟨(some 11), none, .call 0 2 (.cst (.fn 98)) [(.tmp 8), (.tmp 9), (.tmp 10)] [] [.loc 5 0]⟩, ⟨(some 12), none, .ext 0 (.tmp 11)⟩, ⟨(some 13), none, .ext 1 (.tmp 11)⟩, ⟨(some 6), none, .mov (.tmp 12)⟩, ⟨(some 7), none, .mov (.tmp 13)⟩]
def pchart_place_Record_Accountb : AC := (.seq (.ops pchart_place_Record_Accountr0) (.seq (.ops pchart_place_Record_Accountr1) (.keep [] [(6, false), (7, false)] [] [.loc 5 0] [] .ret)))
def pchart_place_Record_Account : Fd := ⟨3, [.tmp 6, .tmp 7], [], pchart_place_Record_Accountb⟩
theorem pchart_place_Record_Account_ag : agreeF Try.prog Try.f61 pchart_place_Record_Account = true := by kernel_rfl
theorem chart_place_Record_Account_ok {l1 : List T_api_Record} {n2 : Int} {r : Int × Bool} (h : chart_place_Record_Account l1 n2 = some r) : Contract Try.prog 61 [.pv (.slice (List.map T_api_Record.pv l1)), .pv (.int .i64 n2), .pv (.fn 62)] [] ⟨.tup [.pv (.int .i64 r.1), .pv (.bool r.2)], [], []⟩ := by
  refine contract_fin hm Try.func61 pchart_place_Record_Account_ag (by kernel_rfl) ?_
  unfold chart_place_Record_Account at h
  refine W.seqOps (RunR.all (by kernel_rfl)) ?_
  replace h := bindS h
  obtain ⟨x3, hx3, h⟩ := h
  refine W.seqOps (RunR.stat 3 (by kernel_rfl) (RunR.cons (tab_cons (on := true) (fun _ => slices_BinarySearchFunc_Record_Record_Account_ok hx3) tab_nil) (Step.callG (g := 98) (caps := []) (v := .tup [.pv (.int .i64 x3.1), .pv (.bool x3.2)]) (ins := []) rfl (by kernel_rfl) (by kernel_rfl) (by kernel_rfl) (tab_hit (by kernel_rfl)) (by kernel_rfl) (by kernel_rfl)) (RunR.all (by kernel_rfl)))) ?_
  refine W.keep rfl ?_
  cases h
  exact W.ret ((fin_ret (by kernel_rfl)))
def pchart_Findr0 : List GOp := [⟨(some 2), none, .box (.tmp 0)⟩, ⟨(some 4), none, .alloc [.pv (.int .i64 0), .pv (.int .i64 0), .pv (.int .i64 0), .pv (.int .i64 0), .pv (.int .i64 0), .pv (.int .i64 0), .pv (.int .i32 0), .pv (.int .i32 0)]⟩, ⟨(some 5), none, .mov (.cst (.int .i64 0))⟩]
def pchart_Findr1 : List GOp := [⟨(some 8), none, .load true 2 (.tmp 2)⟩, ⟨(some 9), none, .call 0 0 (.cst (.fn 16)) [(.tmp 8)] [] []⟩, ⟨(some 10), none, .un .not (.tmp 9)⟩]
def pchart_Findr2 : List GOp := [⟨(some 11), none, .build [.pv (.int .i64 0), .pv (.int .i64 0), .pv (.int .i64 0), .pv (.int .i64 0), .pv (.int .i64 0), .pv (.int .i64 0), .pv (.int .i32 0), .pv (.int .i32 0)] []⟩, ⟨none, none, .store 8 (.tmp 4) (.tmp 11)⟩, ⟨(some 5), none, .mov (.cst (.int .i64 1))⟩]
def pchart_Findr3 : List GOp := [⟨(some 13), none, .fld 1 (.tmp 2)⟩, ⟨(some 14), none, .load false 1 (.tmp 13)⟩, ⟨(some 15), none, .mov (.tmp 1)⟩, ⟨(some 16), none, .call 0 0 (.cst (.fn 61)) [(.tmp 14), (.tmp 15), (.cst (.fn 62))] [] []⟩, ⟨(some 12), none, .mov (.tmp 16)⟩, ⟨(some 17), none, .ext 0 (.tmp 12)⟩, ⟨(some 18), none, .ext 1 (.tmp 12)⟩, ⟨(some 6), none, .mov (.tmp 17)⟩, ⟨(some 7), none, .mov (.tmp 18)⟩]
def pchart_Findr4 : List GOp := [⟨(some 19), none, .mov (.tmp 7)⟩, ⟨(some 20), none, .un .not (.tmp 19)⟩]
def pchart_Findr5 : List GOp := [⟨(some 21), none, .build [.pv (.int .i64 0), .pv (.int .i64 0), .pv (.int .i64 0), .pv (.int .i64 0), .pv (.int .i64 0), .pv (.int .i64 0), .pv (.int .i32 0), .pv (.int .i32 0)] []⟩, ⟨none, none, .store 8 (.tmp 4) (.tmp 21)⟩, ⟨(some 5), none, .mov (.cst (.int .i64 8))⟩]
def pchart_Findr6 : List GOp := [⟨(some 22), none, .fld 1 (.tmp 2)⟩, ⟨(some 23), none, .load false 1 (.tmp 22)⟩, ⟨(some 24), none, .mov (.tmp 6)⟩, ⟨(some 25), none, .idx 8 (.tmp 23) (.tmp 24)⟩, ⟨(some 26), none, .load true 8 (.tmp 25)⟩, ⟨none, none, .store 8 (.tmp 4) (.tmp 26)⟩, ⟨(some 5), none, .mov (.cst (.int .i64 0))⟩]
def pchart_Findb : AC := (.seq (.ops pchart_Findr0) (.seq (.seq (.ops pchart_Findr1) (.cond (.tmp 10) (.seq (.ops pchart_Findr2) (.keep [] [(4, false), (5, false)] [(.loc 4 0, false)] [.loc 2 0] [] .ret)) .skip)) (.seq (.ops pchart_Findr3) (.seq (.seq (.ops pchart_Findr4) (.cond (.tmp 20) (.seq (.ops pchart_Findr5) (.keep [] [(4, false), (5, false)] [(.loc 4 0, false)] [.loc 2 0] [] .ret)) .skip)) (.seq (.ops pchart_Findr6) (.keep [] [(4, false), (5, false)] [(.loc 4 0, false)] [.loc 2 0] [] .ret))))))
def pchart_Find : Fd := ⟨2, [.cell 4 true 8, .tmp 5], [], pchart_Findb⟩
theorem pchart_Find_ag : agreeF Try.prog Try.f29 pchart_Find = true := by kernel_rfl
theorem chart_Find_ok {c1 : T_api_Chart} {a2 : Int} {r : T_api_Record × Int} (h : chart_Find c1 a2 = some r) : Contract Try.prog 29 [.pv (T_api_Chart.pv c1), .pv (.int .i64 a2)] [] ⟨.tup [.pv (T_api_Record.pv r.1), .pv (.int .i64 r.2)], [], []⟩ := by
  refine contract_fin hm Try.func29 pchart_Find_ag (by kernel_rfl) ?_
  unfold chart_Find at h
  refine W.seqOps (RunR.all (by kernel_rfl)) ?_
  refine W.assoc ?_
  replace h := bindS h
  obtain ⟨x3, hx3, h⟩ := h
  refine W.seqOps (RunR.stat 1 (by kernel_rfl) (RunR.cons (tab_cons (on := true) (fun _ => chart_Right_ok hx3) tab_nil) (Step.call0 (g := 16) (caps := []) (v := .pv (.bool x3)) (by kernel_rfl) (by kernel_rfl) (by kernel_rfl) (tab_hit (by kernel_rfl)) (by kernel_rfl)) (RunR.all (by kernel_rfl)))) ?_
  refine W.seqCond (t := !x3) (by kernel_rfl) h (fun hc h' => ?_) (fun hc h' => ?_)
  · replace h := h'
    refine W.assoc ?_
    refine W.seqOps (RunR.all (by kernel_rfl)) ?_
    refine W.seqKeep rfl ?_
    cases h
    exact W.seqRet ((fin_ret (by kernel_rfl)))
  · replace h := h'
    refine W.seqSkip ?_
    replace h := bindS h
    obtain ⟨x4, hx4, h⟩ := h
    refine W.seqOps (RunR.stat 3 (by kernel_rfl) (RunR.cons (tab_cons (on := true) (fun _ => chart_place_Record_Account_ok hx4) tab_nil) (Step.call0 (g := 61) (caps := []) (v := .tup [.pv (.int .i64 x4.1), .pv (.bool x4.2)]) (by kernel_rfl) (by kernel_rfl) (by kernel_rfl) (tab_hit (by kernel_rfl)) (by kernel_rfl)) (RunR.all (by kernel_rfl)))) ?_
    refine W.assoc ?_
    refine W.seqOps (RunR.all (by kernel_rfl)) ?_
    refine W.seqCond (t := !x4.2) (by kernel_rfl) h (fun hc h' => ?_) (fun hc h' => ?_)
    · replace h := h'
      refine W.assoc ?_
      refine W.seqOps (RunR.all (by kernel_rfl)) ?_
      refine W.seqKeep rfl ?_
      cases h
      exact W.seqRet ((fin_ret (by kernel_rfl)))
    · replace h := h'
      refine W.seqSkip ?_
      replace h := bindS h
      obtain ⟨x5, hx5, h⟩ := h
      refine W.seqOps (RunR.stat 3 (by kernel_rfl) (RunR.dyn (Step.idxT (f := T_api_Record.pv) (l := c1.f_Records) (n := x4.1) (e := x5) (k := .i64) (by kernel_rfl) (by kernel_rfl) hx5 (by kernel_rfl)) (RunR.all (by kernel_rfl)))) ?_
      refine W.keep rfl ?_
      cases h
      exact W.ret ((fin_ret (by kernel_rfl)))
def pchart_Closer0 : List GOp := [⟨(some 3), none, .box (.tmp 0)⟩, ⟨(some 6), none, .alloc [.nils, .nils]⟩, ⟨(some 7), none, .mov (.cst (.int .i64 0))⟩]
def pchart_Closer1 : List GOp := [⟨(some 13), none, .load true 2 (.tmp 3)⟩, ⟨(some 14), none, .mov (.tmp 1)⟩, ⟨(some 15), none, .call 0 0 (.cst (.fn 29)) [(.tmp 13), (.tmp 14)] [] []⟩, ⟨(some 12), none, .mov (.tmp 15)⟩, ⟨(some 16), none, .ext 0 (.tmp 12)⟩, ⟨(some 17), none, .ext 1 (.tmp 12)⟩, ⟨(some 8), none, .alloc [.pv (.int .i64 0), .pv (.int .i64 0), .pv (.int .i64 0), .pv (.int .i64 0), .pv (.int .i64 0), .pv (.int .i64 0), .pv (.int .i32 0), .pv (.int .i32 0)]⟩, ⟨none, none, .store 8 (.tmp 8) (.tmp 16)⟩, ⟨(some 9), none, .mov (.tmp 17)⟩]
def pchart_Closer2 : List GOp := [⟨(some 19), none, .mov (.tmp 9)⟩, ⟨(some 20), none, .bin false .neq (.tmp 19) (.cst (.int .i64 0))⟩, ⟨(some 18), none, .mov (.tmp 20)⟩]
def pchart_Closer3 : List GOp := [⟨(some 21), none, .build [.nils, .nils] []⟩, ⟨(some 22), none, .mov (.tmp 9)⟩, ⟨none, none, .store 2 (.tmp 6) (.tmp 21)⟩, ⟨(some 7), none, .mov (.tmp 22)⟩]
def pchart_Closer4 : List GOp := [⟨(some 24), none, .fld 7 (.tmp 8)⟩, ⟨(some 25), none, .load false 1 (.tmp 24)⟩, ⟨(some 26), none, .bin false .neq (.tmp 25) (.cst (.int .i32 50000))⟩, ⟨(some 23), none, .mov (.tmp 26)⟩]
def pchart_Closer5 : List GOp := [⟨(some 27), none, .build [.nils, .nils] []⟩, ⟨none, none, .store 2 (.tmp 6) (.tmp 27)⟩, ⟨(some 7), none, .mov (.cst (.int .i64 16))⟩]
def pchart_Closer6 : List GOp := [⟨(some 29), none, .mov (.tmp 2)⟩, ⟨(some 30), none, .call 0 0 (.cst (.fn 64)) [(.tmp 29)] [] []⟩, ⟨(some 31), none, .un .not (.tmp 30)⟩, ⟨(some 32), none, .mov (.tmp 31)⟩, ⟨(some 33), (some (32, false)), .mov (.tmp 2)⟩, ⟨(some 34), (some (32, false)), .fld 6 (.tmp 8)⟩, ⟨(some 35), (some (32, false)), .load false 1 (.tmp 34)⟩, ⟨(some 36), (some (32, false)), .bin false .lss (.tmp 33) (.tmp 35)⟩, ⟨(some 37), none, .pick (.tmp 32) (.cst (.bool true)) (.tmp 36)⟩, ⟨(some 28), none, .mov (.tmp 37)⟩]
def pchart_Closer7 : List GOp := [⟨(some 38), none, .build [.nils, .nils] []⟩, ⟨none, none, .store 2 (.tmp 6) (.tmp 38)⟩, ⟨(some 7), none, .mov (.cst (.int .i64 11))⟩]
def pchart_Closer8 : List GOp := [⟨(some 40), none, .fld 1 (.tmp 3)⟩, ⟨(some 41), none, .load false 1 (.tmp 40)⟩, ⟨(some 42), none, .mov (.tmp 1)⟩, ⟨(some 43), none, .call 0 0 (.cst (.fn 61)) [(.tmp 41), (.tmp 42), (.cst (.fn 62))] [] []⟩, ⟨(some 39), none, .mov (.tmp 43)⟩, ⟨(some 44), none, .ext 0 (.tmp 39)⟩, ⟨(some 45), none, .ext 1 (.tmp 39)⟩, ⟨(some 10), none, .mov (.tmp 44)⟩, ⟨(some 11), none, .mov (.tmp 45)⟩]
def pchart_Closer9 : List GOp := [⟨(some 46), none, .fld 0 (.tmp 3)⟩, ⟨(some 47), none, .load false 1 (.tmp 46)⟩, ⟨(some 48), none, .call 0 0 (.cst (.fn 58)) [(.tmp 47)] [] []⟩, ⟨(some 49), none, .fld 1 (.tmp 3)⟩, ⟨(some 50), none, .load false 1 (.tmp 49)⟩, ⟨(some 51), none, .call 1 0 (.cst (.fn 59)) [(.tmp 50)] [] []⟩, ⟨(some 52), none, .build [.nils, .nils] [(0, 1, (.tmp 48)), (1, 1, (.tmp 51))]⟩, ⟨none, none, .store 2 (.tmp 3) (.tmp 52)⟩]
def pchart_Closer10 : List GOp := [⟨(some 53), none, .fld 1 (.tmp 3)⟩, ⟨(some 54), none, .load false 1 (.tmp 53)⟩, ⟨(some 55), none, .mov (.tmp 10)⟩, ⟨(some 56), none, .mov (.tmp 2)⟩, ⟨(some 57), none, .idx 8 (.tmp 54) (.tmp 55)⟩, ⟨(some 58), none, .fld 7 (.tmp 57)⟩, ⟨none, none, .store 1 (.tmp 58) (.tmp 56)⟩]
def pchart_Closer11 : List GOp := [⟨(some 59), none, .load true 2 (.tmp 3)⟩, ⟨none, none, .store 2 (.tmp 6) (.tmp 59)⟩, ⟨(some 7), none, .mov (.cst (.int .i64 0))⟩]
def pchart_Closeb : AC := (.seq (.ops pchart_Closer0) (.seq (.ops pchart_Closer1) (.seq (.pass 0 (.seq (.ops pchart_Closer2) (.cond (.tmp 18) (.seq (.ops pchart_Closer3) (.keep [.loc 51 0] [(6, false), (7, false)] [(.loc 6 0, true)] [.loc 3 0, .loc 8 0] [] .ret)) (.seq (.ops pchart_Closer4) (.cond (.tmp 23) (.seq (.ops pchart_Closer5) (.keep [.loc 51 0] [(6, false), (7, false)] [(.loc 6 0, true)] [.loc 3 0, .loc 8 0] [] .ret)) (.seq (.ops pchart_Closer6) (.cond (.tmp 28) (.seq (.ops pchart_Closer7) (.keep [.loc 51 0] [(6, false), (7, false)] [(.loc 6 0, true)] [.loc 3 0, .loc 8 0] [] .ret)) .skip))))))) (.seq (.ops pchart_Closer8) (.seq (.draw [.loc 51 0] pchart_Closer9) (.seq (.ops pchart_Closer10) (.seq (.ops pchart_Closer11) (.keep [.loc 51 0] [(6, false), (7, false)] [(.loc 6 0, true)] [.loc 3 0, .loc 8 0] [] .ret))))))))
def pchart_Close : Fd := ⟨3, [.cell 6 true 2, .tmp 7], [], pchart_Closeb⟩
theorem pchart_Close_ag : agreeF Try.prog Try.f15 pchart_Close = true := by kernel_rfl
theorem chart_Close_ok {c1 : T_api_Chart} {a2 : Int} {day3 : Int} {r : T_api_Chart × Int} (h : chart_Close c1 a2 day3 = some r) : Contract Try.prog 15 [.pv (T_api_Chart.pv c1), .pv (.int .i64 a2), .pv (.int .i32 day3)] [] ⟨.tup [.pv (T_api_Chart.pv r.1), .pv (.int .i64 r.2)], [], []⟩ := by
  refine contract_fin hm Try.func15 pchart_Close_ag (by kernel_rfl) ?_
  unfold chart_Close at h
  refine W.seqOps (RunR.all (by kernel_rfl)) ?_
  replace h := bindS h
  obtain ⟨x4, hx4, h⟩ := h
  refine W.seqOps (RunR.stat 2 (by kernel_rfl) (RunR.cons (tab_cons (on := true) (fun _ => chart_Find_ok hx4) tab_nil) (Step.call0 (g := 29) (caps := []) (v := .tup [.pv (T_api_Record.pv x4.1), .pv (.int .i64 x4.2)]) (by kernel_rfl) (by kernel_rfl) (by kernel_rfl) (tab_hit (by kernel_rfl)) (by kernel_rfl)) (RunR.all (by kernel_rfl)))) ?_
  refine W.seqPass ?_
  refine W.assoc ?_
  refine W.seqOps (RunR.all (by kernel_rfl)) ?_
  refine W.seqCond (t := (x4.2 != 0)) (by kernel_rfl) h (fun hc h' => ?_) (fun hc h' => ?_)
  · replace h := h'
    refine W.assoc ?_
    refine W.seqOps (RunR.all (by kernel_rfl)) ?_
    refine W.seqKeep rfl ?_
    cases h
    exact W.seqRet ((fin_ret (by kernel_rfl)))
  · replace h := h'
    refine W.assoc ?_
    refine W.seqOps (RunR.all (by kernel_rfl)) ?_
    refine W.seqCond (t := (x4.1.f_To != 50000)) (by kernel_rfl) h (fun hc h' => ?_) (fun hc h' => ?_)
    · replace h := h'
      refine W.assoc ?_
      refine W.seqOps (RunR.all (by kernel_rfl)) ?_
      refine W.seqKeep rfl ?_
      cases h
      exact W.seqRet ((fin_ret (by kernel_rfl)))
    · replace h := h'
      refine W.assoc ?_
      replace h := bindS h
      obtain ⟨x5, hx5, h⟩ := h
      replace h := bindS h
      obtain ⟨c6, hc6, h⟩ := h
      refine W.seqOps (RunR.stat 1 (by kernel_rfl) (RunR.cons (tab_cons (on := true) (fun _ => date_Right_ok hx5) tab_nil) (Step.call0 (g := 64) (caps := []) (v := .pv (.bool x5)) (by kernel_rfl) (by kernel_rfl) (by kernel_rfl) (tab_hit (by kernel_rfl)) (by kernel_rfl)) (RunR.stat 1 (by kernel_rfl) (RunR.dyn (Step.name (f := eBool) (e := !x5) (c := c6) (by kernel_rfl) hc6) (RunR.puts 5 [(37, .pv (.bool (c6 || (decide (day3 < x4.1.f_From))))), (36, (bif !c6 then (.pv (.bool (decide (day3 < x4.1.f_From)))) else (.tup []))), (35, (bif !c6 then (.pv (.int .i32 x4.1.f_From)) else (.tup []))), (34, (bif !c6 then (.ptr (.loc 8 0) 6) else (.tup []))), (33, (bif !c6 then (.pv (.int .i32 day3)) else (.tup [])))] (by cases c6 <;> kernel_rfl) (RunR.all (by kernel_rfl))))))) ?_
      refine W.seqCond (t := (c6 || (decide (day3 < x4.1.f_From)))) (by kernel_rfl) h (fun hc h' => ?_) (fun hc h' => ?_)
      · replace h := h'
        refine W.assoc ?_
        refine W.seqOps (RunR.all (by kernel_rfl)) ?_
        refine W.seqKeep rfl ?_
        cases h
        exact W.seqRet ((fin_ret (by kernel_rfl)))
      · replace h := h'
        refine W.seqSkip ?_
        replace h := bindS h
        obtain ⟨x7, hx7, h⟩ := h
        refine W.seqOps (RunR.stat 3 (by kernel_rfl) (RunR.cons (tab_cons (on := true) (fun _ => chart_place_Record_Account_ok hx7) tab_nil) (Step.call0 (g := 61) (caps := []) (v := .tup [.pv (.int .i64 x7.1), .pv (.bool x7.2)]) (by kernel_rfl) (by kernel_rfl) (by kernel_rfl) (tab_hit (by kernel_rfl)) (by kernel_rfl)) (RunR.all (by kernel_rfl)))) ?_
        replace h := bindS h
        obtain ⟨x8, hx8, h⟩ := h
        replace h := bindS h
        obtain ⟨x9, hx9, h⟩ := h
        refine W.seqDraw (tab_cons (on := true) (fun _ => slices_Clone58_ok hx8) (tab_cons (on := true) (fun _ => slices_Clone59_ok hx9) tab_nil)) (Run.stat 2 (by kernel_rfl) (Run.dyn (Step.call0 (g := 58) (caps := []) (v := .pv (.slice (List.map T_api_Customer.pv x8))) (by kernel_rfl) (by kernel_rfl) (by kernel_rfl) (tab_hit (by kernel_rfl)) (by kernel_rfl)) (Run.stat 2 (by kernel_rfl) (Run.dyn (Step.callD (g := 59) (caps := []) (v := .own (.loc 51 0)) (ins := [(.loc 51 0, .row 8 (List.map T_api_Record.pv x9))]) (by kernel_rfl) (by kernel_rfl) (by kernel_rfl) (tab_next rfl (tab_hit (by kernel_rfl))) (by kernel_rfl)) (Run.all (by kernel_rfl)))))) ?_
        replace h := bindS h
        obtain ⟨x10, hx10, h⟩ := h
        refine W.seqOps (RunR.stat 4 (by kernel_rfl) (RunR.dyn (Step.idxOwnT (k := .loc 51 0) (f := T_api_Record.pv) (l := x9) (n := x7.1) (e := x10) (kd := .i64) (by kernel_rfl) (by kernel_rfl) (by kernel_rfl) hx10) (RunR.stat 1 (by kernel_rfl) (RunR.dyn (Step.storeRowT (sz := 8) (off := 7) (k := .loc 51 0) (f := T_api_Record.pv) (l := x9) (i := x7.1) (e := x10) (e' := (⟨x10.f_Acc, x10.f_Kind, x10.f_Cur, x10.f_Customer, x10.f_Product, x10.f_Partition, x10.f_From, day3⟩ : T_api_Record)) (v := (.int .i32 day3)) (by kernel_rfl) (by kernel_rfl) (by kernel_rfl) hx10 (by kernel_rfl) (by kernel_rfl)) ((.nil _)))))) ?_
        refine W.seqOps (RunR.all (by kernel_rfl)) ?_
        refine W.keep rfl ?_
        cases h
        exact W.ret ((fin_ret (by kernel_rfl)))
def pchart_Openr0 : List GOp := [⟨(some 2), none, .box (.tmp 0)⟩, ⟨(some 3), none, .box (.tmp 1)⟩, ⟨(some 4), none, .alloc [.nils, .nils]⟩, ⟨(some 5), none, .mov (.cst (.int .i64 0))⟩]
def pchart_Openr1 : List GOp := [⟨(some 10), none, .fld 7 (.tmp 3)⟩, ⟨none, none, .store 1 (.tmp 10) (.cst (.int .i32 50000))⟩]
def pchart_Openr2 : List GOp := [⟨(some 11), none, .load true 2 (.tmp 2)⟩, ⟨(some 12), none, .call 0 0 (.cst (.fn 16)) [(.tmp 11)] [] []⟩, ⟨(some 13), none, .un .not (.tmp 12)⟩, ⟨(some 14), none, .mov (.tmp 13)⟩, ⟨(some 15), (some (14, false)), .load true 8 (.tmp 3)⟩, ⟨(some 16), (some (14, false)), .call 0 0 (.cst (.fn 60)) [(.tmp 15)] [] []⟩, ⟨(some 17), (some (14, false)), .un .not (.tmp 16)⟩, ⟨(some 18), none, .pick (.tmp 14) (.cst (.bool true)) (.tmp 17)⟩]
def pchart_Openr3 : List GOp := [⟨(some 19), none, .build [.nils, .nils] []⟩, ⟨none, none, .store 2 (.tmp 4) (.tmp 19)⟩, ⟨(some 5), none, .mov (.cst (.int .i64 1))⟩]
def pchart_Openr4 : List GOp := [⟨(some 21), none, .fld 0 (.tmp 2)⟩, ⟨(some 22), none, .load false 1 (.tmp 21)⟩, ⟨(some 23), none, .fld 3 (.tmp 3)⟩, ⟨(some 24), none, .load false 1 (.tmp 23)⟩, ⟨(some 25), none, .call 0 0 (.cst (.fn 55)) [(.tmp 22), (.tmp 24), (.cst (.fn 56))] [] []⟩, ⟨(some 20), none, .mov (.tmp 25)⟩, ⟨(some 26), none, .ext 0 (.tmp 20)⟩, ⟨(some 27), none, .ext 1 (.tmp 20)⟩, ⟨(some 6), none, .mov (.tmp 26)⟩, ⟨(some 7), none, .mov (.tmp 27)⟩]
def pchart_Openr5 : List GOp := [⟨(some 29), none, .fld 1 (.tmp 2)⟩, ⟨(some 30), none, .load false 1 (.tmp 29)⟩, ⟨(some 31), none, .fld 0 (.tmp 3)⟩, ⟨(some 32), none, .load false 1 (.tmp 31)⟩, ⟨(some 33), none, .call 0 0 (.cst (.fn 61)) [(.tmp 30), (.tmp 32), (.cst (.fn 62))] [] []⟩, ⟨(some 28), none, .mov (.tmp 33)⟩, ⟨(some 34), none, .ext 0 (.tmp 28)⟩, ⟨(some 35), none, .ext 1 (.tmp 28)⟩, ⟨(some 8), none, .mov (.tmp 34)⟩, ⟨(some 9), none, .mov (.tmp 35)⟩]
def pchart_Openr6 : List GOp := [⟨(some 37), none, .fld 3 (.tmp 3)⟩, ⟨(some 38), none, .load false 1 (.tmp 37)⟩, ⟨(some 39), none, .bin false .gtr (.tmp 38) (.cst (.int .i64 0))⟩, ⟨(some 40), none, .mov (.tmp 39)⟩, ⟨(some 41), (some (40, true)), .mov (.tmp 7)⟩, ⟨(some 42), (some (40, true)), .un .not (.tmp 41)⟩, ⟨(some 43), none, .pick (.tmp 40) (.tmp 42) (.cst (.bool false))⟩, ⟨(some 36), none, .mov (.tmp 43)⟩]
def pchart_Openr7 : List GOp := [⟨(some 44), none, .build [.nils, .nils] []⟩, ⟨none, none, .store 2 (.tmp 4) (.tmp 44)⟩, ⟨(some 5), none, .mov (.cst (.int .i64 8))⟩]
def pchart_Openr8 : List GOp := [⟨(some 46), none, .mov (.tmp 9)⟩, ⟨(some 45), none, .mov (.tmp 46)⟩]
def pchart_Openr9 : List GOp := [⟨(some 47), none, .build [.nils, .nils] []⟩, ⟨none, none, .store 2 (.tmp 4) (.tmp 47)⟩, ⟨(some 5), none, .mov (.cst (.int .i64 26))⟩]
def pchart_Openr10 : List GOp := [⟨(some 49), none, .fld 1 (.tmp 2)⟩, ⟨(some 50), none, .load false 1 (.tmp 49)⟩, ⟨(some 51), none, .len false (.tmp 50)⟩, ⟨(some 52), none, .bin false .eql (.tmp 51) (.cst (.int .i64 200))⟩, ⟨(some 48), none, .mov (.tmp 52)⟩]
def pchart_Openr11 : List GOp := [⟨(some 53), none, .build [.nils, .nils] []⟩, ⟨none, none, .store 2 (.tmp 4) (.tmp 53)⟩, ⟨(some 5), none, .mov (.cst (.int .i64 6))⟩]
def pchart_Openr12 : List GOp := [⟨(some 54), none, .fld 0 (.tmp 2)⟩, ⟨(some 55), none, .load false 1 (.tmp 54)⟩, ⟨(some 56), none, .call 0 0 (.cst (.fn 58)) [(.tmp 55)] [] []⟩, ⟨(some 57), none, .fld 1 (.tmp 2)⟩, ⟨(some 58), none, .load false 1 (.tmp 57)⟩, ⟨(some 59), none, .call 1 0 (.cst (.fn 59)) [(.tmp 58)] [] []⟩, ⟨(some 60), none, .mov (.tmp 8)⟩, ⟨(some 61), none, .load true 8 (.tmp 3)⟩, ⟨(some 62), none, .lit true 8 [(.tmp 61)]⟩, ⟨(some 63), none, .ins 63 8 56 59 (.tmp 60) (.tmp 62)⟩, ⟨(some 64), none, .build [.nils, .nils] [(0, 1, (.tmp 56)), (1, 1, (.tmp 63))]⟩]
def pchart_Openr12z : List GOp := [⟨none, none, .store 2 (.tmp 4) (.tmp 64)⟩, ⟨(some 5), none, .mov (.cst (.int .i64 0))⟩]
def pchart_Openb : AC := (.seq (.ops pchart_Openr0) (.seq (.ops pchart_Openr1) (.seq (.seq (.ops pchart_Openr2) (.cond (.tmp 18) (.seq (.ops pchart_Openr3) (.keep [.loc 63 0] [(4, false), (5, false)] [(.loc 4 0, true)] [.loc 2 0, .loc 3 0, .loc 62 0] [] .ret)) .skip)) (.seq (.ops pchart_Openr4) (.seq (.ops pchart_Openr5) (.seq (.pass 0 (.seq (.ops pchart_Openr6) (.cond (.tmp 36) (.seq (.ops pchart_Openr7) (.keep [.loc 63 0] [(4, false), (5, false)] [(.loc 4 0, true)] [.loc 2 0, .loc 3 0, .loc 62 0] [] .ret)) (.seq (.ops pchart_Openr8) (.cond (.tmp 45) (.seq (.ops pchart_Openr9) (.keep [.loc 63 0] [(4, false), (5, false)] [(.loc 4 0, true)] [.loc 2 0, .loc 3 0, .loc 62 0] [] .ret)) (.seq (.ops pchart_Openr10) (.cond (.tmp 48) (.seq (.ops pchart_Openr11) (.keep [.loc 63 0] [(4, false), (5, false)] [(.loc 4 0, true)] [.loc 2 0, .loc 3 0, .loc 62 0] [] .ret)) .skip))))))) (.seq (.keep [] [(2, false), (3, false), (4, false), (8, false)] [(.loc 2 0, false), (.loc 3 0, false), (.loc 4 0, false)] [] [] (.drawZ [.loc 59 0, .loc 62 0, .loc 63 0] pchart_Openr12 pchart_Openr12z)) (.keep [.loc 63 0] [(4, false), (5, false)] [(.loc 4 0, true)] [.loc 2 0, .loc 3 0, .loc 62 0] [] .ret))))))))
def pchart_Open : Fd := ⟨2, [.cell 4 true 2, .tmp 5], [], pchart_Openb⟩
theorem pchart_Open_ag : agreeF Try.prog Try.f14 pchart_Open = true := by kernel_rfl
theorem chart_Open_ok {c1 : T_api_Chart} {r2 : T_api_Record} {r : T_api_Chart × Int} (h : chart_Open c1 r2 = some r) : Contract Try.prog 14 [.pv (T_api_Chart.pv c1), .pv (T_api_Record.pv r2)] [] ⟨.tup [.pv (T_api_Chart.pv r.1), .pv (.int .i64 r.2)], [], []⟩ := by
  refine contract_fin hm Try.func14 pchart_Open_ag (by kernel_rfl) ?_
  unfold chart_Open at h
  refine W.seqOps (RunR.all (by kernel_rfl)) ?_
  refine W.seqOps (RunR.all (by kernel_rfl)) ?_
  refine W.assoc ?_
  replace h := bindS h
  obtain ⟨x3, hx3, h⟩ := h
  replace h := bindS h
  obtain ⟨c4, hc4, h⟩ := h
  replace h := bindS h
  obtain ⟨x5, hx5, h⟩ := h
  refine W.seqOps (RunR.stat 1 (by kernel_rfl) (RunR.cons (tab_cons (on := true) (fun _ => chart_Right_ok hx3) tab_nil) (Step.call0 (g := 16) (caps := []) (v := .pv (.bool x3)) (by kernel_rfl) (by kernel_rfl) (by kernel_rfl) (tab_hit (by kernel_rfl)) (by kernel_rfl)) (RunR.stat 1 (by kernel_rfl) (RunR.dyn (Step.name (f := eBool) (e := !x3) (c := c4) (by kernel_rfl) hc4) (RunR.puts 1 [(15, (bif !c4 then (.pv (.agg [.int .i64 r2.f_Acc, .int .i64 r2.f_Kind, .int .i64 r2.f_Cur, .int .i64 r2.f_Customer, .int .i64 r2.f_Product, .int .i64 r2.f_Partition, .int .i32 r2.f_From, .int .i32 50000])) else (.tup [])))] (by cases c4 <;> kernel_rfl) (RunR.cons (tab_cons (on := (!c4)) (fun hg => chart_isRecord_ok (gdO_at hg hx5)) tab_nil) (Step.gdG (!c4) (by kernel_rfl) (by
        cases c4
        · exact .inr ⟨by kernel_rfl, by kernel_rfl, Step.call0 (g := 60) (caps := []) (v := .pv (.bool x5)) (by kernel_rfl) (by kernel_rfl) (by kernel_rfl) (tab_hit (by kernel_rfl)) (by kernel_rfl)⟩
        · exact .inl ⟨by kernel_rfl, by kernel_rfl⟩)) (RunR.puts 2 [(18, .pv (.bool (c4 || (!x5)))), (17, (bif !c4 then (.pv (.bool (!x5))) else (.tup [])))] (by cases c4 <;> kernel_rfl) ((.nil _))))))))) ?_
  refine W.seqCond (t := (c4 || (!x5))) (by kernel_rfl) h (fun hc h' => ?_) (fun hc h' => ?_)
  · replace h := h'
    refine W.assoc ?_
    refine W.seqOps (RunR.all (by kernel_rfl)) ?_
    refine W.seqKeep rfl ?_
    cases h
    exact W.seqRet ((fin_ret (by kernel_rfl)))
  · replace h := h'
    refine W.seqSkip ?_
    replace h := bindS h
    obtain ⟨x6, hx6, h⟩ := h
    refine W.seqOps (RunR.stat 4 (by kernel_rfl) (RunR.cons (tab_cons (on := true) (fun _ => chart_place_Customer_int_ok hx6) tab_nil) (Step.call0 (g := 55) (caps := []) (v := .tup [.pv (.int .i64 x6.1), .pv (.bool x6.2)]) (by kernel_rfl) (by kernel_rfl) (by kernel_rfl) (tab_hit (by kernel_rfl)) (by kernel_rfl)) (RunR.all (by kernel_rfl)))) ?_
    replace h := bindS h
    obtain ⟨x7, hx7, h⟩ := h
    refine W.seqOps (RunR.stat 4 (by kernel_rfl) (RunR.cons (tab_cons (on := true) (fun _ => chart_place_Record_Account_ok hx7) tab_nil) (Step.call0 (g := 61) (caps := []) (v := .tup [.pv (.int .i64 x7.1), .pv (.bool x7.2)]) (by kernel_rfl) (by kernel_rfl) (by kernel_rfl) (tab_hit (by kernel_rfl)) (by kernel_rfl)) (RunR.all (by kernel_rfl)))) ?_
    refine W.seqPass ?_
    refine W.assoc ?_
    replace h := bindS h
    obtain ⟨c8, hc8, h⟩ := h
    refine W.seqOps (RunR.stat 3 (by kernel_rfl) (RunR.dyn (Step.name (f := eBool) (e := decide (r2.f_Customer > 0)) (c := c8) (by kernel_rfl) hc8) (RunR.puts 3 [(43, .pv (.bool (c8 && (!x6.2)))), (42, (bif c8 then (.pv (.bool (!x6.2))) else (.tup []))), (41, (bif c8 then (.pv (.bool x6.2)) else (.tup [])))] (by cases c8 <;> kernel_rfl) (RunR.all (by kernel_rfl))))) ?_
    refine W.seqCond (t := (c8 && (!x6.2))) (by kernel_rfl) h (fun hc h' => ?_) (fun hc h' => ?_)
    · replace h := h'
      refine W.assoc ?_
      refine W.seqOps (RunR.all (by kernel_rfl)) ?_
      refine W.seqKeep rfl ?_
      cases h
      exact W.seqRet ((fin_ret (by kernel_rfl)))
    · replace h := h'
      refine W.assoc ?_
      refine W.seqOps (RunR.all (by kernel_rfl)) ?_
      refine W.seqCond (t := x7.2) (by kernel_rfl) h (fun hc h' => ?_) (fun hc h' => ?_)
      · replace h := h'
        refine W.assoc ?_
        refine W.seqOps (RunR.all (by kernel_rfl)) ?_
        refine W.seqKeep rfl ?_
        cases h
        exact W.seqRet ((fin_ret (by kernel_rfl)))
      · replace h := h'
        refine W.assoc ?_
        refine W.seqOps (RunR.stat 2 (by kernel_rfl) (RunR.dyn (Step.lenT (f := T_api_Record.pv) (l := c1.f_Records) (by kernel_rfl)) (RunR.all (by kernel_rfl)))) ?_
        refine W.seqCond (t := ((c1.f_Records.length : Int) == 200)) (by kernel_rfl) h (fun hc h' => ?_) (fun hc h' => ?_)
        · replace h := h'
          refine W.assoc ?_
          refine W.seqOps (RunR.all (by kernel_rfl)) ?_
          refine W.seqKeep rfl ?_
          cases h
          exact W.seqRet ((fin_ret (by kernel_rfl)))
        · replace h := h'
          refine W.seqSkip ?_
          replace h := bindS h
          obtain ⟨x9, hx9, h⟩ := h
          replace h := bindS h
          obtain ⟨x10, hx10, h⟩ := h
          replace h := bindS h
          obtain ⟨x11, hx11, h⟩ := h
          refine W.seqKeep rfl ?_
          refine W.seqDrawZ (tab_cons (on := true) (fun _ => slices_Clone58_ok hx9) (tab_cons (on := true) (fun _ => slices_Clone59_ok hx10) tab_nil)) (hI_of (by kernel_rfl) (hI_cons insC63 hI_nil)) (Run.stat 2 (by kernel_rfl) (Run.dyn (Step.call0 (g := 58) (caps := []) (v := .pv (.slice (List.map T_api_Customer.pv x9))) (by kernel_rfl) (by kernel_rfl) (by kernel_rfl) (tab_hit (by kernel_rfl)) (by kernel_rfl)) (Run.stat 2 (by kernel_rfl) (Run.dyn (Step.callD (g := 59) (caps := []) (v := .own (.loc 59 0)) (ins := [(.loc 59 0, .row 8 (List.map T_api_Record.pv x10))]) (by kernel_rfl) (by kernel_rfl) (by kernel_rfl) (tab_next rfl (tab_hit (by kernel_rfl))) (by kernel_rfl)) (Run.stat 3 (by kernel_rfl) (Run.dyn (Step.insT (k := .loc 59 0) (k2 := .loc 62 0) (F := T_api_Record.pv) (l := x10) (r := x11) (e := (⟨r2.f_Acc, r2.f_Kind, r2.f_Cur, r2.f_Customer, r2.f_Product, r2.f_Partition, r2.f_From, 50000⟩ : T_api_Record)) (n := x7.1) (by kernel_rfl) (by kernel_rfl) (by kernel_rfl) (by kernel_rfl) (by kernel_rfl) (by kernel_rfl) hx11) (Run.all (by kernel_rfl)))))))) (by kernel_rfl) (RunR.all (by kernel_rfl)) ?_
          refine W.keep rfl ?_
          cases h
          exact W.ret ((fin_ret (by kernel_rfl)))
def pchart_in_Dater0 : List GOp := [⟨(some 6), none, .mov (.cst (.bool false))⟩]
def pchart_in_Dater1 : List GOp := [⟨(some 7), none, .mov (.tmp 0)⟩, ⟨(some 8), none, .mov (.tmp 1)⟩, ⟨(some 9), none, .bin false .geq (.tmp 7) (.tmp 8)⟩, ⟨(some 10), none, .mov (.tmp 9)⟩, ⟨(some 11), (some (10, true)), .mov (.tmp 0)⟩, ⟨(some 12), (some (10, true)), .mov (.tmp 2)⟩, ⟨(some 13), (some (10, true)), .bin false .leq (.tmp 11) (.tmp 12)⟩, ⟨(some 14), none, .pick (.tmp 10) (.tmp 13) (.cst (.bool false))⟩, ⟨(some 6), none, .mov (.tmp 14)⟩]
def pchart_in_Dateb : AC := (.seq (.ops pchart_in_Dater0) (.seq (.ops pchart_in_Dater1) (.keep [] [(6, false)] [] [] [] .ret)))
def pchart_in_Date : Fd := ⟨3, [.tmp 6], [], pchart_in_Dateb⟩
theorem pchart_in_Date_ag : agreeF Try.prog Try.f71 pchart_in_Date = true := by kernel_rfl
theorem chart_in_Date_ok {n1 : Int} {low2 : Int} {high3 : Int} {r : Bool} (h : chart_in_Date n1 low2 high3 = some r) : Contract Try.prog 71 [.pv (.int .i32 n1), .pv (.int .i32 low2), .pv (.int .i32 high3)] [] ⟨.pv (.bool r), [], []⟩ := by
  refine contract_fin hm Try.func71 pchart_in_Date_ag (by kernel_rfl) ?_
  unfold chart_in_Date at h
  refine W.seqOps (RunR.all (by kernel_rfl)) ?_
  replace h := bindS h
  obtain ⟨c4, hc4, h⟩ := h
  refine W.seqOps (RunR.stat 3 (by kernel_rfl) (RunR.dyn (Step.name (f := eBool) (e := decide (n1 ≥ low2)) (c := c4) (by kernel_rfl) hc4) (RunR.puts 4 [(14, .pv (.bool (c4 && (decide (n1 ≤ high3))))), (13, (bif c4 then (.pv (.bool (decide (n1 ≤ high3)))) else (.tup []))), (12, (bif c4 then (.pv (.int .i32 high3)) else (.tup []))), (11, (bif c4 then (.pv (.int .i32 n1)) else (.tup [])))] (by cases c4 <;> kernel_rfl) (RunR.all (by kernel_rfl))))) ?_
  refine W.keep rfl ?_
  cases h
  exact W.ret ((fin_ret (by kernel_rfl)))
def pchart_Isr0 : List GOp := [⟨(some 3), none, .box (.tmp 0)⟩, ⟨(some 6), none, .mov (.cst (.bool false))⟩, ⟨(some 7), none, .mov (.cst (.int .i64 0))⟩]
def pchart_Isr1 : List GOp := [⟨(some 11), none, .load true 2 (.tmp 3)⟩, ⟨(some 12), none, .mov (.tmp 1)⟩, ⟨(some 13), none, .call 0 0 (.cst (.fn 29)) [(.tmp 11), (.tmp 12)] [] []⟩, ⟨(some 10), none, .mov (.tmp 13)⟩, ⟨(some 14), none, .ext 0 (.tmp 10)⟩, ⟨(some 15), none, .ext 1 (.tmp 10)⟩, ⟨(some 8), none, .alloc [.pv (.int .i64 0), .pv (.int .i64 0), .pv (.int .i64 0), .pv (.int .i64 0), .pv (.int .i64 0), .pv (.int .i64 0), .pv (.int .i32 0), .pv (.int .i32 0)]⟩, ⟨none, none, .store 8 (.tmp 8) (.tmp 14)⟩, ⟨(some 9), none, .mov (.tmp 15)⟩]
def pchart_Isr2 : List GOp := [⟨(some 17), none, .mov (.tmp 9)⟩, ⟨(some 18), none, .bin false .neq (.tmp 17) (.cst (.int .i64 0))⟩, ⟨(some 16), none, .mov (.tmp 18)⟩]
def pchart_Isr3 : List GOp := [⟨(some 19), none, .mov (.tmp 9)⟩, ⟨(some 6), none, .mov (.cst (.bool false))⟩, ⟨(some 7), none, .mov (.tmp 19)⟩]
def pchart_Isr4 : List GOp := [⟨(some 21), none, .mov (.tmp 2)⟩, ⟨(some 22), none, .call 0 0 (.cst (.fn 64)) [(.tmp 21)] [] []⟩, ⟨(some 23), none, .un .not (.tmp 22)⟩, ⟨(some 20), none, .mov (.tmp 23)⟩]
def pchart_Isr5 : List GOp := [⟨(some 6), none, .mov (.cst (.bool false))⟩, ⟨(some 7), none, .mov (.cst (.int .i64 11))⟩]
def pchart_Isr6 : List GOp := [⟨(some 24), none, .mov (.tmp 2)⟩, ⟨(some 25), none, .fld 6 (.tmp 8)⟩, ⟨(some 26), none, .load false 1 (.tmp 25)⟩, ⟨(some 27), none, .fld 7 (.tmp 8)⟩, ⟨(some 28), none, .load false 1 (.tmp 27)⟩, ⟨(some 29), none, .call 0 0 (.cst (.fn 71)) [(.tmp 24), (.tmp 26), (.tmp 28)] [] []⟩, ⟨(some 6), none, .mov (.tmp 29)⟩, ⟨(some 7), none, .mov (.cst (.int .i64 0))⟩]
def pchart_Isb : AC := (.seq (.ops pchart_Isr0) (.seq (.ops pchart_Isr1) (.seq (.pass 0 (.seq (.ops pchart_Isr2) (.cond (.tmp 16) (.seq (.ops pchart_Isr3) (.keep [] [(6, false), (7, false)] [] [.loc 3 0, .loc 8 0] [] .ret)) (.seq (.ops pchart_Isr4) (.cond (.tmp 20) (.seq (.ops pchart_Isr5) (.keep [] [(6, false), (7, false)] [] [.loc 3 0, .loc 8 0] [] .ret)) .skip))))) (.seq (.ops pchart_Isr6) (.keep [] [(6, false), (7, false)] [] [.loc 3 0, .loc 8 0] [] .ret)))))
def pchart_Is : Fd := ⟨3, [.tmp 6, .tmp 7], [], pchart_Isb⟩
theorem pchart_Is_ag : agreeF Try.prog Try.f30 pchart_Is = true := by kernel_rfl
theorem chart_Is_ok {c1 : T_api_Chart} {a2 : Int} {day3 : Int} {r : Bool × Int} (h : chart_Is c1 a2 day3 = some r) : Contract Try.prog 30 [.pv (T_api_Chart.pv c1), .pv (.int .i64 a2), .pv (.int .i32 day3)] [] ⟨.tup [.pv (.bool r.1), .pv (.int .i64 r.2)], [], []⟩ := by
  refine contract_fin hm Try.func30 pchart_Is_ag (by kernel_rfl) ?_
  unfold chart_Is at h
  refine W.seqOps (RunR.all (by kernel_rfl)) ?_
  replace h := bindS h
  obtain ⟨x4, hx4, h⟩ := h
  refine W.seqOps (RunR.stat 2 (by kernel_rfl) (RunR.cons (tab_cons (on := true) (fun _ => chart_Find_ok hx4) tab_nil) (Step.call0 (g := 29) (caps := []) (v := .tup [.pv (T_api_Record.pv x4.1), .pv (.int .i64 x4.2)]) (by kernel_rfl) (by kernel_rfl) (by kernel_rfl) (tab_hit (by kernel_rfl)) (by kernel_rfl)) (RunR.all (by kernel_rfl)))) ?_
  refine W.seqPass ?_
  refine W.assoc ?_
  refine W.seqOps (RunR.all (by kernel_rfl)) ?_
  refine W.seqCond (t := (x4.2 != 0)) (by kernel_rfl) h (fun hc h' => ?_) (fun hc h' => ?_)
  · replace h := h'
    refine W.assoc ?_
    refine W.seqOps (RunR.all (by kernel_rfl)) ?_
    refine W.seqKeep rfl ?_
    cases h
    exact W.seqRet ((fin_ret (by kernel_rfl)))
  · replace h := h'
    refine W.assoc ?_
    replace h := bindS h
    obtain ⟨x5, hx5, h⟩ := h
    refine W.seqOps (RunR.stat 1 (by kernel_rfl) (RunR.cons (tab_cons (on := true) (fun _ => date_Right_ok hx5) tab_nil) (Step.call0 (g := 64) (caps := []) (v := .pv (.bool x5)) (by kernel_rfl) (by kernel_rfl) (by kernel_rfl) (tab_hit (by kernel_rfl)) (by kernel_rfl)) (RunR.all (by kernel_rfl)))) ?_
    refine W.seqCond (t := !x5) (by kernel_rfl) h (fun hc h' => ?_) (fun hc h' => ?_)
    · replace h := h'
      refine W.assoc ?_
      refine W.seqOps (RunR.all (by kernel_rfl)) ?_
      refine W.seqKeep rfl ?_
      cases h
      exact W.seqRet ((fin_ret (by kernel_rfl)))
    · replace h := h'
      refine W.seqSkip ?_
      replace h := bindS h
      obtain ⟨x6, hx6, h⟩ := h
      refine W.seqOps (RunR.stat 5 (by kernel_rfl) (RunR.cons (tab_cons (on := true) (fun _ => chart_in_Date_ok hx6) tab_nil) (Step.call0 (g := 71) (caps := []) (v := .pv (.bool x6)) (by kernel_rfl) (by kernel_rfl) (by kernel_rfl) (tab_hit (by kernel_rfl)) (by kernel_rfl)) (RunR.all (by kernel_rfl)))) ?_
      refine W.keep rfl ?_
      cases h
      exact W.ret ((fin_ret (by kernel_rfl)))
def pcashbooklaw18_aliver0 : List GOp := [⟨(some 0), none, .mov (.cst (.bool false))⟩]
def pcashbooklaw18_aliver1 : List GOp := [⟨(some 9), none, .build [.nils, .nils] []⟩, ⟨(some 10), none, .build [.pv (.int .i64 0), .pv (.int .i64 0), .pv (.int .i64 0), .pv (.int .i64 0), .pv (.int .i64 0), .pv (.int .i64 0), .pv (.int .i32 0), .pv (.int .i32 0)] [(0, 1, (.cst (.int .i64 5))), (6, 1, (.cst (.int .i32 10)))]⟩, ⟨(some 11), none, .call 0 0 (.cst (.fn 14)) [(.tmp 9), (.tmp 10)] [] []⟩, ⟨(some 8), none, .mov (.tmp 11)⟩, ⟨(some 12), none, .ext 0 (.tmp 8)⟩, ⟨(some 13), none, .ext 1 (.tmp 8)⟩, ⟨(some 1), none, .alloc [.nils, .nils]⟩, ⟨none, none, .store 2 (.tmp 1) (.tmp 12)⟩, ⟨(some 2), none, .mov (.tmp 13)⟩]
def pcashbooklaw18_aliver2 : List GOp := [⟨(some 15), none, .load true 2 (.tmp 1)⟩, ⟨(some 16), none, .call 0 0 (.cst (.fn 15)) [(.tmp 15), (.cst (.int .i64 5)), (.cst (.int .i32 20))] [] []⟩, ⟨(some 14), none, .mov (.tmp 16)⟩, ⟨(some 17), none, .ext 0 (.tmp 14)⟩, ⟨(some 18), none, .ext 1 (.tmp 14)⟩, ⟨none, none, .store 2 (.tmp 1) (.tmp 17)⟩, ⟨(some 3), none, .mov (.tmp 18)⟩]
def pcashbooklaw18_aliver3 : List GOp := [⟨(some 20), none, .load true 2 (.tmp 1)⟩, ⟨(some 21), none, .call 0 0 (.cst (.fn 30)) [(.tmp 20), (.cst (.int .i64 5)), (.cst (.int .i32 20))] [] []⟩, ⟨(some 19), none, .mov (.tmp 21)⟩, ⟨(some 22), none, .ext 0 (.tmp 19)⟩, ⟨(some 23), none, .ext 1 (.tmp 19)⟩, ⟨(some 4), none, .mov (.tmp 22)⟩, ⟨(some 5), none, .mov (.tmp 23)⟩]
def pcashbooklaw18_aliver4 : List GOp := [⟨(some 25), none, .load true 2 (.tmp 1)⟩, ⟨(some 26), none, .call 0 0 (.cst (.fn 30)) [(.tmp 25), (.cst (.int .i64 5)), (.cst (.int .i32 21))] [] []⟩, ⟨(some 24), none, .mov (.tmp 26)⟩, ⟨(some 27), none, .ext 0 (.tmp 24)⟩, ⟨(some 28), none, .ext 1 (.tmp 24)⟩, ⟨(some 6), none, .mov (.tmp 27)⟩, ⟨(some 7), none, .mov (.tmp 28)⟩]
def pcashbooklaw18_aliver5 : List GOp := [⟨(some 29), none, .mov (.tmp 2)⟩, ⟨(some 30), none, .bin false .eql (.tmp 29) (.cst (.int .i64 0))⟩, ⟨(some 31), none, .mov (.tmp 30)⟩, ⟨(some 32), (some (31, true)), .mov (.tmp 3)⟩, ⟨(some 33), (some (31, true)), .bin false .eql (.tmp 32) (.cst (.int .i64 0))⟩, ⟨(some 34), none, .pick (.tmp 31) (.tmp 33) (.cst (.bool false))⟩, ⟨(some 35), none, .mov (.tmp 34)⟩, ⟨(some 36), (some (35, true)), .mov (.tmp 5)⟩, ⟨(some 37), (some (35, true)), .bin false .eql (.tmp 36) (.cst (.int .i64 0))⟩, ⟨(some 38), none, .pick (.tmp 35) (.tmp 37) (.cst (.bool false))⟩, ⟨(some 39), none, .mov (.tmp 38)⟩, ⟨(some 40), (some (39, true)), .mov (.tmp 7)⟩, ⟨(some 41), (some (39, true)), .bin false .eql (.tmp 40) (.cst (.int .i64 0))⟩, ⟨(some 42), none, .pick (.tmp 39) (.tmp 41) (.cst (.bool false))⟩, ⟨(some 43), none, .mov (.tmp 42)⟩, ⟨(some 44), (some (43, true)), .mov (.tmp 4)⟩, ⟨(some 45), none, .pick (.tmp 43) (.tmp 44) (.cst (.bool false))⟩, ⟨(some 46), none, .mov (.tmp 45)⟩, ⟨(some 47), (some (46, true)), .mov (.tmp 6)⟩, ⟨(some 48), (some (46, true)), .un .not (.tmp 47)⟩, ⟨(some 49), none, .pick (.tmp 46) (.tmp 48) (.cst (.bool false))⟩, ⟨(some 0), none, .mov (.tmp 49)⟩]
def pcashbooklaw18_aliveb : AC := (.seq (.ops pcashbooklaw18_aliver0) (.seq (.ops pcashbooklaw18_aliver1) (.seq (.ops pcashbooklaw18_aliver2) (.seq (.ops pcashbooklaw18_aliver3) (.seq (.ops pcashbooklaw18_aliver4) (.seq (.ops pcashbooklaw18_aliver5) (.keep [] [(0, false)] [] [.loc 1 0] [] .ret)))))))
def pcashbooklaw18_alive : Fd := ⟨0, [.tmp 0], [], pcashbooklaw18_aliveb⟩
theorem pcashbooklaw18_alive_ag : agreeF Try.prog Try.f18 pcashbooklaw18_alive = true := by kernel_rfl
theorem cashbooklaw18_alive_ok {r : Bool} (h : cashbooklaw18_alive = some r) : Contract Try.prog 18 [] [] ⟨.pv (.bool r), [], []⟩ := by
  refine contract_fin hm Try.func18 pcashbooklaw18_alive_ag (by kernel_rfl) ?_
  unfold cashbooklaw18_alive at h
  refine W.seqOps (RunR.all (by kernel_rfl)) ?_
  replace h := bindS h
  obtain ⟨x1, hx1, h⟩ := h
  refine W.seqOps (RunR.stat 2 (by kernel_rfl) (RunR.cons (tab_cons (on := true) (fun _ => chart_Open_ok hx1) tab_nil) (Step.call0 (g := 14) (caps := []) (v := .tup [.pv (T_api_Chart.pv x1.1), .pv (.int .i64 x1.2)]) (by kernel_rfl) (by kernel_rfl) (by kernel_rfl) (tab_hit (by kernel_rfl)) (by kernel_rfl)) (RunR.all (by kernel_rfl)))) ?_
  replace h := bindS h
  obtain ⟨x2, hx2, h⟩ := h
  refine W.seqOps (RunR.stat 1 (by kernel_rfl) (RunR.cons (tab_cons (on := true) (fun _ => chart_Close_ok hx2) tab_nil) (Step.call0 (g := 15) (caps := []) (v := .tup [.pv (T_api_Chart.pv x2.1), .pv (.int .i64 x2.2)]) (by kernel_rfl) (by kernel_rfl) (by kernel_rfl) (tab_hit (by kernel_rfl)) (by kernel_rfl)) (RunR.all (by kernel_rfl)))) ?_
  replace h := bindS h
  obtain ⟨x3, hx3, h⟩ := h
  refine W.seqOps (RunR.stat 1 (by kernel_rfl) (RunR.cons (tab_cons (on := true) (fun _ => chart_Is_ok hx3) tab_nil) (Step.call0 (g := 30) (caps := []) (v := .tup [.pv (.bool x3.1), .pv (.int .i64 x3.2)]) (by kernel_rfl) (by kernel_rfl) (by kernel_rfl) (tab_hit (by kernel_rfl)) (by kernel_rfl)) (RunR.all (by kernel_rfl)))) ?_
  replace h := bindS h
  obtain ⟨x4, hx4, h⟩ := h
  refine W.seqOps (RunR.stat 1 (by kernel_rfl) (RunR.cons (tab_cons (on := true) (fun _ => chart_Is_ok hx4) tab_nil) (Step.call0 (g := 30) (caps := []) (v := .tup [.pv (.bool x4.1), .pv (.int .i64 x4.2)]) (by kernel_rfl) (by kernel_rfl) (by kernel_rfl) (tab_hit (by kernel_rfl)) (by kernel_rfl)) (RunR.all (by kernel_rfl)))) ?_
  replace h := bindS h
  obtain ⟨c5, hc5, h⟩ := h
  replace h := bindS h
  obtain ⟨c6, hc6, h⟩ := h
  replace h := bindS h
  obtain ⟨c7, hc7, h⟩ := h
  replace h := bindS h
  obtain ⟨c8, hc8, h⟩ := h
  replace h := bindS h
  obtain ⟨c9, hc9, h⟩ := h
  refine W.seqOps (RunR.stat 2 (by kernel_rfl) (RunR.dyn (Step.name (f := eBool) (e := (x1.2 == 0)) (c := c5) (by kernel_rfl) hc5) (RunR.puts 3 [(34, .pv (.bool (c5 && (x2.2 == 0)))), (33, (bif c5 then (.pv (.bool (x2.2 == 0))) else (.tup []))), (32, (bif c5 then (.pv (.int .i64 x2.2)) else (.tup [])))] (by cases c5 <;> kernel_rfl) (RunR.dyn (Step.name (f := eBool) (e := (c5 && (x2.2 == 0))) (c := c6) (by kernel_rfl) hc6) (RunR.puts 3 [(38, .pv (.bool (c6 && (x3.2 == 0)))), (37, (bif c6 then (.pv (.bool (x3.2 == 0))) else (.tup []))), (36, (bif c6 then (.pv (.int .i64 x3.2)) else (.tup [])))] (by cases c6 <;> kernel_rfl) (RunR.dyn (Step.name (f := eBool) (e := (c6 && (x3.2 == 0))) (c := c7) (by kernel_rfl) hc7) (RunR.puts 3 [(42, .pv (.bool (c7 && (x4.2 == 0)))), (41, (bif c7 then (.pv (.bool (x4.2 == 0))) else (.tup []))), (40, (bif c7 then (.pv (.int .i64 x4.2)) else (.tup [])))] (by cases c7 <;> kernel_rfl) (RunR.dyn (Step.name (f := eBool) (e := (c7 && (x4.2 == 0))) (c := c8) (by kernel_rfl) hc8) (RunR.puts 2 [(45, .pv (.bool (c8 && x3.1))), (44, (bif c8 then (.pv (.bool x3.1)) else (.tup [])))] (by cases c8 <;> kernel_rfl) (RunR.dyn (Step.name (f := eBool) (e := (c8 && x3.1)) (c := c9) (by kernel_rfl) hc9) (RunR.puts 3 [(49, .pv (.bool (c9 && (!x4.1)))), (48, (bif c9 then (.pv (.bool (!x4.1))) else (.tup []))), (47, (bif c9 then (.pv (.bool x4.1)) else (.tup [])))] (by cases c9 <;> kernel_rfl) (RunR.all (by kernel_rfl))))))))))))) ?_
  refine W.keep rfl ?_
  cases h
  exact W.ret ((fin_ret (by kernel_rfl)))
end Go.Av.G
