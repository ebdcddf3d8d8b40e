/- What functions of the program compute, in plain words, and that they do: printed by a program of ours. -/
import Derived.Test.YtkcilagjhieapaaT6n0
set_option linter.unusedVariables false
set_option linter.unusedSimpArgs false
set_option maxRecDepth 100000
set_option maxHeartbeats 8000000
namespace Go.Av.G
open Go Go.Av Go.Proofs
def pcashbooklaw18_aliver0 : List GOp := [⟨(some 0), none, .mov (.cst (.bool false))⟩]
def pcashbooklaw18_aliver1 : List GOp := [⟨(some 9), none, .build [.nils, .nils] []⟩, ⟨(some 10), none, .build [.pv (.int .i64 0), .pv (.int .i64 0), .pv (.int .i64 0), .pv (.int .i64 0), .pv (.int .i64 0), .pv (.int .i64 0), .pv (.int .i32 0), .pv (.int .i32 0)] [(0, 1, (.cst (.int .i64 5))), (6, 1, (.cst (.int .i32 10)))]⟩, ⟨(some 11), none, .call 0 false (.cst (.fn 14)) [(.tmp 9), (.tmp 10)]⟩, ⟨(some 8), none, .mov (.tmp 11)⟩, ⟨(some 12), none, .ext 0 (.tmp 8)⟩, ⟨(some 13), none, .ext 1 (.tmp 8)⟩, ⟨(some 1), none, .alloc [.nils, .nils]⟩, ⟨none, none, .store 2 (.tmp 1) (.tmp 12)⟩, ⟨(some 2), none, .mov (.tmp 13)⟩]
def pcashbooklaw18_aliver2 : List GOp := [⟨(some 15), none, .load true 2 (.tmp 1)⟩, ⟨(some 16), none, .call 0 false (.cst (.fn 15)) [(.tmp 15), (.cst (.int .i64 5)), (.cst (.int .i32 20))]⟩, ⟨(some 14), none, .mov (.tmp 16)⟩, ⟨(some 17), none, .ext 0 (.tmp 14)⟩, ⟨(some 18), none, .ext 1 (.tmp 14)⟩, ⟨none, none, .store 2 (.tmp 1) (.tmp 17)⟩, ⟨(some 3), none, .mov (.tmp 18)⟩]
def pcashbooklaw18_aliver3 : List GOp := [⟨(some 20), none, .load true 2 (.tmp 1)⟩, ⟨(some 21), none, .call 0 false (.cst (.fn 30)) [(.tmp 20), (.cst (.int .i64 5)), (.cst (.int .i32 20))]⟩, ⟨(some 19), none, .mov (.tmp 21)⟩, ⟨(some 22), none, .ext 0 (.tmp 19)⟩, ⟨(some 23), none, .ext 1 (.tmp 19)⟩, ⟨(some 4), none, .mov (.tmp 22)⟩, ⟨(some 5), none, .mov (.tmp 23)⟩]
def pcashbooklaw18_aliver4 : List GOp := [⟨(some 25), none, .load true 2 (.tmp 1)⟩, ⟨(some 26), none, .call 0 false (.cst (.fn 30)) [(.tmp 25), (.cst (.int .i64 5)), (.cst (.int .i32 21))]⟩, ⟨(some 24), none, .mov (.tmp 26)⟩, ⟨(some 27), none, .ext 0 (.tmp 24)⟩, ⟨(some 28), none, .ext 1 (.tmp 24)⟩, ⟨(some 6), none, .mov (.tmp 27)⟩, ⟨(some 7), none, .mov (.tmp 28)⟩]
def pcashbooklaw18_aliver5 : List GOp := [⟨(some 29), none, .mov (.tmp 2)⟩, ⟨(some 30), none, .bin false .eql (.tmp 29) (.cst (.int .i64 0))⟩, ⟨(some 31), none, .mov (.tmp 30)⟩, ⟨(some 32), (some (31, true)), .mov (.tmp 3)⟩, ⟨(some 33), (some (31, true)), .bin false .eql (.tmp 32) (.cst (.int .i64 0))⟩, ⟨(some 34), none, .pick (.tmp 31) (.tmp 33) (.cst (.bool false))⟩, ⟨(some 35), none, .mov (.tmp 34)⟩, ⟨(some 36), (some (35, true)), .mov (.tmp 5)⟩, ⟨(some 37), (some (35, true)), .bin false .eql (.tmp 36) (.cst (.int .i64 0))⟩, ⟨(some 38), none, .pick (.tmp 35) (.tmp 37) (.cst (.bool false))⟩, ⟨(some 39), none, .mov (.tmp 38)⟩, ⟨(some 40), (some (39, true)), .mov (.tmp 7)⟩, ⟨(some 41), (some (39, true)), .bin false .eql (.tmp 40) (.cst (.int .i64 0))⟩, ⟨(some 42), none, .pick (.tmp 39) (.tmp 41) (.cst (.bool false))⟩, ⟨(some 43), none, .mov (.tmp 42)⟩, ⟨(some 44), (some (43, true)), .mov (.tmp 4)⟩, ⟨(some 45), none, .pick (.tmp 43) (.tmp 44) (.cst (.bool false))⟩, ⟨(some 46), none, .mov (.tmp 45)⟩, ⟨(some 47), (some (46, true)), .mov (.tmp 6)⟩, ⟨(some 48), (some (46, true)), .un .not (.tmp 47)⟩, ⟨(some 49), none, .pick (.tmp 46) (.tmp 48) (.cst (.bool false))⟩, ⟨(some 0), none, .mov (.tmp 49)⟩]
def pcashbooklaw18_aliveb : AC := (.seq (.ops pcashbooklaw18_aliver0) (.seq (.ops pcashbooklaw18_aliver1) (.seq (.ops pcashbooklaw18_aliver2) (.seq (.ops pcashbooklaw18_aliver3) (.seq (.ops pcashbooklaw18_aliver4) (.seq (.ops pcashbooklaw18_aliver5) .ret))))))
def pcashbooklaw18_alive : Fd := ⟨0, [.tmp 0], pcashbooklaw18_aliveb⟩
/-- cashbook/cashbooklaw18.alive -/
noncomputable def cashbooklaw18_alive : Option Bool :=
  (chart_Open (⟨[], []⟩ : T_api_Chart) (⟨5, 0, 0, 0, 0, 0, 10, 0⟩ : T_api_Record)).bind fun x1 =>
  (chart_Close x1.1 5 20).bind fun x2 =>
  (chart_Is x2.1 5 20).bind fun x3 =>
  (chart_Is x2.1 5 21).bind fun x4 =>
  (some (x1.2 == 0)).bind fun c5 =>
  (some (c5 && (x2.2 == 0))).bind fun c6 =>
  (some (c6 && (x3.2 == 0))).bind fun c7 =>
  (some (c7 && (x4.2 == 0))).bind fun c8 =>
  (some (c8 && x3.1)).bind fun c9 =>
  some (c9 && (!x4.1))
theorem pcashbooklaw18_alive_ag : agreeF Try.prog Try.f18 pcashbooklaw18_alive = true := by kernel_rfl
theorem cashbooklaw18_alive_ok {r : Bool} (h : cashbooklaw18_alive = some r) : Contract Try.prog 18 [] [] ⟨.pv (.bool r), [], []⟩ := by
  refine contract_fin hm Try.func18 pcashbooklaw18_alive_ag (by kernel_rfl) ?_
  unfold cashbooklaw18_alive at h
  refine W.seqOps (RunR.all (by kernel_rfl)) ?_
  replace h := bindS h
  obtain ⟨x1, hx1, h⟩ := h
  refine W.seqOps (RunR.stat 2 (by kernel_rfl) (RunR.cons (tab_cons (on := true) (fun _ => chart_Open_ok hx1) tab_nil) (Step.call (g := 14) (caps := []) (v := .tup [.pv (T_api_Chart.pv x1.1), .pv (.int .i64 x1.2)]) (by kernel_rfl) (by kernel_rfl) (tab_hit (by kernel_rfl)) (by kernel_rfl)) (RunR.all (by kernel_rfl)))) ?_
  replace h := bindS h
  obtain ⟨x2, hx2, h⟩ := h
  refine W.seqOps (RunR.stat 1 (by kernel_rfl) (RunR.cons (tab_cons (on := true) (fun _ => chart_Close_ok hx2) tab_nil) (Step.call (g := 15) (caps := []) (v := .tup [.pv (T_api_Chart.pv x2.1), .pv (.int .i64 x2.2)]) (by kernel_rfl) (by kernel_rfl) (tab_hit (by kernel_rfl)) (by kernel_rfl)) (RunR.all (by kernel_rfl)))) ?_
  replace h := bindS h
  obtain ⟨x3, hx3, h⟩ := h
  refine W.seqOps (RunR.stat 1 (by kernel_rfl) (RunR.cons (tab_cons (on := true) (fun _ => chart_Is_ok hx3) tab_nil) (Step.call (g := 30) (caps := []) (v := .tup [.pv (.bool x3.1), .pv (.int .i64 x3.2)]) (by kernel_rfl) (by kernel_rfl) (tab_hit (by kernel_rfl)) (by kernel_rfl)) (RunR.all (by kernel_rfl)))) ?_
  replace h := bindS h
  obtain ⟨x4, hx4, h⟩ := h
  refine W.seqOps (RunR.stat 1 (by kernel_rfl) (RunR.cons (tab_cons (on := true) (fun _ => chart_Is_ok hx4) tab_nil) (Step.call (g := 30) (caps := []) (v := .tup [.pv (.bool x4.1), .pv (.int .i64 x4.2)]) (by kernel_rfl) (by kernel_rfl) (tab_hit (by kernel_rfl)) (by kernel_rfl)) (RunR.all (by kernel_rfl)))) ?_
  replace h := bindS h
  obtain ⟨c5, hc5, h⟩ := h
  replace h := bindS h
  obtain ⟨c6, hc6, h⟩ := h
  replace h := bindS h
  obtain ⟨c7, hc7, h⟩ := h
  replace h := bindS h
  obtain ⟨c8, hc8, h⟩ := h
  replace h := bindS h
  obtain ⟨c9, hc9, h⟩ := h
  refine W.seqOps (RunR.stat 2 (by kernel_rfl) (RunR.dyn (Step.name (f := eBool) (e := (x1.2 == 0)) (c := c5) (by kernel_rfl) hc5) (RunR.puts 3 [(34, .pv (.bool (c5 && (x2.2 == 0)))), (33, (bif c5 then (.pv (.bool (x2.2 == 0))) else (.tup []))), (32, (bif c5 then (.pv (.int .i64 x2.2)) else (.tup [])))] (by cases c5 <;> kernel_rfl) (RunR.dyn (Step.name (f := eBool) (e := (c5 && (x2.2 == 0))) (c := c6) (by kernel_rfl) hc6) (RunR.puts 3 [(38, .pv (.bool (c6 && (x3.2 == 0)))), (37, (bif c6 then (.pv (.bool (x3.2 == 0))) else (.tup []))), (36, (bif c6 then (.pv (.int .i64 x3.2)) else (.tup [])))] (by cases c6 <;> kernel_rfl) (RunR.dyn (Step.name (f := eBool) (e := (c6 && (x3.2 == 0))) (c := c7) (by kernel_rfl) hc7) (RunR.puts 3 [(42, .pv (.bool (c7 && (x4.2 == 0)))), (41, (bif c7 then (.pv (.bool (x4.2 == 0))) else (.tup []))), (40, (bif c7 then (.pv (.int .i64 x4.2)) else (.tup [])))] (by cases c7 <;> kernel_rfl) (RunR.dyn (Step.name (f := eBool) (e := (c7 && (x4.2 == 0))) (c := c8) (by kernel_rfl) hc8) (RunR.puts 2 [(45, .pv (.bool (c8 && x3.1))), (44, (bif c8 then (.pv (.bool x3.1)) else (.tup [])))] (by cases c8 <;> kernel_rfl) (RunR.dyn (Step.name (f := eBool) (e := (c8 && x3.1)) (c := c9) (by kernel_rfl) hc9) (RunR.puts 3 [(49, .pv (.bool (c9 && (!x4.1)))), (48, (bif c9 then (.pv (.bool (!x4.1))) else (.tup []))), (47, (bif c9 then (.pv (.bool x4.1)) else (.tup [])))] (by cases c9 <;> kernel_rfl) (RunR.all (by kernel_rfl))))))))))))) ?_
  cases h
  exact W.ret ((fin_ret (by kernel_rfl)))
def pcashbookref18_Ofr0 : List GOp := [⟨(some 2), none, .box (.tmp 0)⟩, ⟨(some 4), none, .mov .nils⟩]
def pcashbookref18_Ofr1 : List GOp := [⟨(some 8), none, .lit true 1 []⟩, ⟨(some 5), none, .mov (.tmp 8)⟩]
def pcashbookref18_Ofr2 : List GOp := [⟨(some 9), none, .fld 1 (.tmp 2)⟩, ⟨(some 10), none, .load false 1 (.tmp 9)⟩, ⟨(some 11), none, .len false (.tmp 10)⟩, ⟨(some 12), none, .mov (.cst (.int .i64 0))⟩]
def pcashbookref18_Ofr3 : List GOp := [⟨(some 13), none, .bin false .lss (.tmp 12) (.tmp 11)⟩]
def pcashbookref18_Ofr4 : List GOp := [⟨(some 14), none, .idx 8 (.tmp 10) (.tmp 12)⟩, ⟨(some 15), none, .load true 8 (.tmp 14)⟩, ⟨(some 7), none, .alloc [.pv (.int .i64 0), .pv (.int .i64 0), .pv (.int .i64 0), .pv (.int .i64 0), .pv (.int .i64 0), .pv (.int .i64 0), .pv (.int .i32 0), .pv (.int .i32 0)]⟩, ⟨none, none, .store 8 (.tmp 7) (.tmp 15)⟩]
def pcashbookref18_Ofr5 : List GOp := [⟨(some 16), none, .fld 3 (.tmp 7)⟩, ⟨(some 17), none, .load false 1 (.tmp 16)⟩, ⟨(some 18), none, .mov (.tmp 1)⟩, ⟨(some 19), none, .bin false .eql (.tmp 17) (.tmp 18)⟩]
def pcashbookref18_Ofr6 : List GOp := [⟨(some 20), none, .mov (.tmp 5)⟩, ⟨(some 21), none, .fld 0 (.tmp 7)⟩, ⟨(some 22), none, .load false 1 (.tmp 21)⟩, ⟨(some 23), none, .lit false 1 [(.tmp 22)]⟩, ⟨(some 24), none, .append 5 1 8 (.tmp 20) (.tmp 23)⟩, ⟨(some 5), none, .mov (.tmp 24)⟩]
def pcashbookref18_Ofr7 : List GOp := [⟨(some 25), none, .bin false .add (.tmp 12) (.cst (.int .i64 1))⟩, ⟨(some 12), none, .mov (.tmp 25)⟩]
def pcashbookref18_Ofl8 : AC := (.keep [] [(1, false), (5, false), (10, false), (11, false), (12, false)] [(.loc 5 0, false)] [.loc 2 0] (.seq (.ops pcashbookref18_Ofr3) (.seq (.cond (.tmp 13) .skip (.exit 0)) (.seq (.pass 1 (.seq (.ops pcashbookref18_Ofr4) (.seq (.ops pcashbookref18_Ofr5) (.cond (.tmp 19) (.ops pcashbookref18_Ofr6) .skip)))) (.keep [] [(1, false), (5, false), (10, false), (11, false), (12, false)] [(.loc 5 0, false)] [.loc 7 0] (.ops pcashbookref18_Ofr7))))))
def pcashbookref18_Ofr9 : List GOp := [⟨(some 26), none, .mov (.tmp 5)⟩, ⟨(some 4), none, .mov (.tmp 26)⟩]
def pcashbookref18_Ofb : AC := (.seq (.ops pcashbookref18_Ofr0) (.seq (.ops pcashbookref18_Ofr1) (.seq (.seq (.ops pcashbookref18_Ofr2) (.block 0 (.loop [1, 5, 10, 11, 12] [] pcashbookref18_Ofl8))) (.seq (.keep [.loc 5 0] [(5, true)] [] [.loc 2 0, .loc 5 0] (.ops pcashbookref18_Ofr9)) .ret))))
def pcashbookref18_Of : Fd := ⟨2, [.tmp 4], pcashbookref18_Ofb⟩
/-- cashbook/cashbookref18.Of -/
noncomputable def cashbookref18_Of (c1 : T_api_Chart) (id2 : Int) : Option (List Int) :=
  ((loopO (fun (qj3 : Int × (List Int)) => match qj3 with
    | (x4, out5) => (
      if (decide (x4 < (c1.f_Records.length : Int))) = true then
        (rdO c1.f_Records x4).bind fun x7 =>
        ((if (x7.f_Customer == id2) = true then
          (apO 8 out5 [x7.f_Acc]).bind fun x9 =>
          some x9
        else
          some out5) : Option (List Int)).bind fun j8 =>
        some (.inl (IntKind.wrap .i64 (x4 + 1), j8))
      else
        some (.inr out5) : Option ((Int × (List Int)) ⊕ (List Int)))) (0, [])) : Option (List Int)).bind fun j3 =>
  some j3
theorem pcashbookref18_Of_ag : agreeF Try.prog Try.f34 pcashbookref18_Of = true := by kernel_rfl
theorem cashbookref18_Of_ok {c1 : T_api_Chart} {id2 : Int} {r : List Int} (h : cashbookref18_Of c1 id2 = some r) : Contract Try.prog 34 [.pv (T_api_Chart.pv c1), .pv (.int .i64 id2)] [] ⟨.pv (.slice (List.map (eInt .i64) r)), [], []⟩ := by
  refine contract_fin hm Try.func34 pcashbookref18_Of_ag (by kernel_rfl) ?_
  unfold cashbookref18_Of at h
  refine W.seqOps (RunR.all (by kernel_rfl)) ?_
  refine W.seqOps (RunR.all (by kernel_rfl)) ?_
  refine W.assoc ?_
  refine W.seqOps (RunR.stat 2 (by kernel_rfl) (RunR.dyn (Step.lenT (f := T_api_Record.pv) (l := c1.f_Records) (by kernel_rfl)) (RunR.all (by kernel_rfl)))) ?_
  replace h := bindS h
  obtain ⟨j3, hj3, h⟩ := h
  refine W.join (j := j3) (fun p σ => σ.tidy [.loc 5 0] [(5, true)] [] [.loc 2 0, .loc 5 0] = ⟨[(5, .pv (.slice (List.map (eInt .i64) p)))], []⟩) ?_ (fun σj3 hsj3 => ?_)
  · refine W.blockLoop (fun q σ => (q.2 = [] ∧ ((σ.forget [1, 5, 10, 11, 12]).killAll []).tidy [] [(1, false), (5, false), (10, false), (11, false), (12, false)] [(.loc 5 0, false)] [.loc 2 0] = ⟨[(1, .pv (.int .i64 id2)), (5, .nils), (10, .pv (.slice (List.map T_api_Record.pv c1.f_Records))), (11, .pv (.int .i64 (c1.f_Records.length : Int))), (12, .pv (.int .i64 q.1))], []⟩) ∨ (((σ.forget [1, 5, 10, 11, 12]).killAll []).tidy [] [(1, false), (5, false), (10, false), (11, false), (12, false)] [(.loc 5 0, false)] [.loc 2 0] = ⟨[(1, .pv (.int .i64 id2)), (5, .own (.loc 5 0)), (10, .pv (.slice (List.map T_api_Record.pv c1.f_Records))), (11, .pv (.int .i64 (c1.f_Records.length : Int))), (12, .pv (.int .i64 q.1))], [(.loc 5 0, .row 1 (List.map (eInt .i64) q.2))]⟩)) hj3 ?_ ?_
    · exact (.inl ⟨rfl, by kernel_rfl⟩)
    · intro q σj3 oj3 hJj3 h
      obtain ⟨x4, out5⟩ := q
      rcases hJj3 with ⟨hn6k0, hJj3⟩ | hJj3
      · obtain rfl : out5 = [] := hn6k0
        refine W.keep hJj3 ?_
        refine W.seqOps (RunR.all (by kernel_rfl)) ?_
        refine W.seqCond (t := decide (x4 < (c1.f_Records.length : Int))) (by kernel_rfl) h (fun hc h' => ?_) (fun hc h' => ?_)
        · replace h := h'
          refine W.seqSkip ?_
          refine W.seqPass ?_
          refine W.assoc ?_
          replace h := bindS h
          obtain ⟨x7, hx7, h⟩ := h
          refine W.seqOps (RunR.dyn (Step.idxT (f := T_api_Record.pv) (l := c1.f_Records) (n := x4) (e := x7) (k := .i64) (by kernel_rfl) (by kernel_rfl) hx7 (by kernel_rfl)) (RunR.all (by kernel_rfl))) ?_
          refine W.assoc ?_
          refine W.seqOps (RunR.all (by kernel_rfl)) ?_
          replace h := bindS h
          obtain ⟨j8, hj8, h⟩ := h
          refine W.join (j := j8) (fun p σ => (p = [] ∧ σ.tidy [] [(1, false), (5, false), (10, false), (11, false), (12, false)] [(.loc 5 0, false)] [.loc 7 0] = ⟨[(1, .pv (.int .i64 id2)), (5, .nils), (10, .pv (.slice (List.map T_api_Record.pv c1.f_Records))), (11, .pv (.int .i64 (c1.f_Records.length : Int))), (12, .pv (.int .i64 x4))], []⟩) ∨ (σ.tidy [] [(1, false), (5, false), (10, false), (11, false), (12, false)] [(.loc 5 0, false)] [.loc 7 0] = ⟨[(1, .pv (.int .i64 id2)), (5, .own (.loc 5 0)), (10, .pv (.slice (List.map T_api_Record.pv c1.f_Records))), (11, .pv (.int .i64 (c1.f_Records.length : Int))), (12, .pv (.int .i64 x4))], [(.loc 5 0, .row 1 (List.map (eInt .i64) p))]⟩)) ?_ (fun σj8 hsj8 => ?_)
          · replace h := hj8
            refine W.condI (t := (x7.f_Customer == id2)) (by kernel_rfl) h (fun hc h' => ?_) (fun hc h' => ?_)
            · replace h := h'
              replace h := bindS h
              obtain ⟨x9, hx9, h⟩ := h
              refine W.ops (RunR.stat 4 (by kernel_rfl) (RunR.dyn (Step.appendNilT (f := (eInt .i64)) (l := ([] : List Int)) (m := [x7.f_Acc]) (by kernel_rfl) rfl (by kernel_rfl) hx9 rfl (fun _ => rfl) (by kernel_rfl)) (RunR.all (by kernel_rfl)))) ?_
              cases h
              exact (normw (.inr (by kernel_rfl)))
            · replace h := h'
              cases h
              exact W.skip ((normw (.inl ⟨rfl, by kernel_rfl⟩)))
          · rcases hsj8 with ⟨hn11k0, hsj8⟩ | hsj8
            · obtain rfl : j8 = [] := hn11k0
              refine W.keep hsj8 ?_
              refine W.ops (RunR.all (by kernel_rfl)) ?_
              cases h
              exact (outw_in (.inl ⟨rfl, by kernel_rfl⟩))
            · refine W.keep hsj8 ?_
              refine W.ops (RunR.all (by kernel_rfl)) ?_
              cases h
              exact (outw_in (.inr (by kernel_rfl)))
        · replace h := h'
          cases h
          exact W.seqExit (outw_out exit_ne (bnorm_x (by (show _ = _); kernel_rfl)))
      · refine W.keep hJj3 ?_
        refine W.seqOps (RunR.all (by kernel_rfl)) ?_
        refine W.seqCond (t := decide (x4 < (c1.f_Records.length : Int))) (by kernel_rfl) h (fun hc h' => ?_) (fun hc h' => ?_)
        · replace h := h'
          refine W.seqSkip ?_
          refine W.seqPass ?_
          refine W.assoc ?_
          replace h := bindS h
          obtain ⟨x7, hx7, h⟩ := h
          refine W.seqOps (RunR.dyn (Step.idxT (f := T_api_Record.pv) (l := c1.f_Records) (n := x4) (e := x7) (k := .i64) (by kernel_rfl) (by kernel_rfl) hx7 (by kernel_rfl)) (RunR.all (by kernel_rfl))) ?_
          refine W.assoc ?_
          refine W.seqOps (RunR.all (by kernel_rfl)) ?_
          replace h := bindS h
          obtain ⟨j8, hj8, h⟩ := h
          refine W.join (j := j8) (fun p σ => (p = [] ∧ σ.tidy [] [(1, false), (5, false), (10, false), (11, false), (12, false)] [(.loc 5 0, false)] [.loc 7 0] = ⟨[(1, .pv (.int .i64 id2)), (5, .nils), (10, .pv (.slice (List.map T_api_Record.pv c1.f_Records))), (11, .pv (.int .i64 (c1.f_Records.length : Int))), (12, .pv (.int .i64 x4))], []⟩) ∨ (σ.tidy [] [(1, false), (5, false), (10, false), (11, false), (12, false)] [(.loc 5 0, false)] [.loc 7 0] = ⟨[(1, .pv (.int .i64 id2)), (5, .own (.loc 5 0)), (10, .pv (.slice (List.map T_api_Record.pv c1.f_Records))), (11, .pv (.int .i64 (c1.f_Records.length : Int))), (12, .pv (.int .i64 x4))], [(.loc 5 0, .row 1 (List.map (eInt .i64) p))]⟩)) ?_ (fun σj8 hsj8 => ?_)
          · replace h := hj8
            refine W.condI (t := (x7.f_Customer == id2)) (by kernel_rfl) h (fun hc h' => ?_) (fun hc h' => ?_)
            · replace h := h'
              replace h := bindS h
              obtain ⟨x9, hx9, h⟩ := h
              refine W.ops (RunR.stat 4 (by kernel_rfl) (RunR.dyn (Step.appendOwnT (k := .loc 5 0) (f := (eInt .i64)) (l := out5) (m := [x7.f_Acc]) (by kernel_rfl) (by kernel_rfl) (by kernel_rfl) hx9 (fun _ => rfl) (by kernel_rfl)) (RunR.all (by kernel_rfl)))) ?_
              cases h
              exact (normw (.inr (by kernel_rfl)))
            · replace h := h'
              cases h
              exact W.skip ((normw (.inr (by kernel_rfl))))
          · rcases hsj8 with ⟨hn11k0, hsj8⟩ | hsj8
            · obtain rfl : j8 = [] := hn11k0
              refine W.keep hsj8 ?_
              refine W.ops (RunR.all (by kernel_rfl)) ?_
              cases h
              exact (outw_in (.inl ⟨rfl, by kernel_rfl⟩))
            · refine W.keep hsj8 ?_
              refine W.ops (RunR.all (by kernel_rfl)) ?_
              cases h
              exact (outw_in (.inr (by kernel_rfl)))
        · replace h := h'
          cases h
          exact W.seqExit (outw_out exit_ne (bnorm_x (by (show _ = _); kernel_rfl)))
  · refine W.seqKeep hsj3 ?_
    refine W.seqOps (RunR.all (by kernel_rfl)) ?_
    cases h
    exact W.ret ((fin_ret (by kernel_rfl)))
def pcashbookref18_Accountsr0 : List GOp := [⟨(some 4), none, .mov (.cst (.bool false))⟩]
def pcashbookref18_Accountsr1 : List GOp := [⟨(some 6), none, .mov (.tmp 0)⟩, ⟨(some 7), none, .len false (.tmp 6)⟩, ⟨(some 8), none, .mov (.tmp 1)⟩, ⟨(some 9), none, .len false (.tmp 8)⟩, ⟨(some 10), none, .bin false .neq (.tmp 7) (.tmp 9)⟩]
def pcashbookref18_Accountsr2 : List GOp := [⟨(some 4), none, .mov (.cst (.bool false))⟩]
def pcashbookref18_Accountsr3 : List GOp := [⟨(some 11), none, .mov (.tmp 0)⟩, ⟨(some 12), none, .len false (.tmp 11)⟩, ⟨(some 13), none, .mov (.cst (.int .i64 0))⟩]
def pcashbookref18_Accountsr4 : List GOp := [⟨(some 14), none, .bin false .lss (.tmp 13) (.tmp 12)⟩]
def pcashbookref18_Accountsr5 : List GOp := [⟨(some 15), none, .mov (.tmp 13)⟩, ⟨(some 5), none, .mov (.tmp 15)⟩]
def pcashbookref18_Accountsr6 : List GOp := [⟨(some 16), none, .mov (.tmp 0)⟩, ⟨(some 17), none, .mov (.tmp 5)⟩, ⟨(some 18), none, .idx 1 (.tmp 16) (.tmp 17)⟩, ⟨(some 19), none, .load false 1 (.tmp 18)⟩, ⟨(some 20), none, .mov (.tmp 1)⟩, ⟨(some 21), none, .mov (.tmp 5)⟩, ⟨(some 22), none, .idx 1 (.tmp 20) (.tmp 21)⟩, ⟨(some 23), none, .load false 1 (.tmp 22)⟩, ⟨(some 24), none, .bin false .neq (.tmp 19) (.tmp 23)⟩]
def pcashbookref18_Accountsr7 : List GOp := [⟨(some 4), none, .mov (.cst (.bool false))⟩]
def pcashbookref18_Accountsr8 : List GOp := [⟨(some 25), none, .bin false .add (.tmp 13) (.cst (.int .i64 1))⟩, ⟨(some 13), none, .mov (.tmp 25)⟩]
def pcashbookref18_Accountsl9 : AC := (.keep [] [(0, false), (1, false), (12, false), (13, false)] [] [] (.seq (.ops pcashbookref18_Accountsr4) (.seq (.cond (.tmp 14) .skip (.exit 0)) (.seq (.pass 1 (.seq (.ops pcashbookref18_Accountsr5) (.seq (.draw [] pcashbookref18_Accountsr6) (.cond (.tmp 24) (.seq (.ops pcashbookref18_Accountsr7) .ret) .skip)))) (.ops pcashbookref18_Accountsr8)))))
def pcashbookref18_Accountsr10 : List GOp := [⟨(some 4), none, .mov (.cst (.bool true))⟩]
def pcashbookref18_Accountsb : AC := (.seq (.ops pcashbookref18_Accountsr0) (.seq (.seq (.ops pcashbookref18_Accountsr1) (.cond (.tmp 10) (.seq (.ops pcashbookref18_Accountsr2) .ret) .skip)) (.seq (.seq (.ops pcashbookref18_Accountsr3) (.block 0 (.loop [0, 1, 12, 13] [] pcashbookref18_Accountsl9))) (.seq (.keep [] [] [] [] (.ops pcashbookref18_Accountsr10)) .ret))))
def pcashbookref18_Accounts : Fd := ⟨2, [.tmp 4], pcashbookref18_Accountsb⟩
/-- cashbook/cashbookref18.Accounts -/
noncomputable def cashbookref18_Accounts (a1 : List Int) (b2 : List Int) : Option Bool :=
  if ((a1.length : Int) != (b2.length : Int)) = true then
    some false
  else
    ((loopO (fun (qj3 : Int) => match qj3 with
      | x4 => (
        if (decide (x4 < (a1.length : Int))) = true then
          (rdO a1 x4).bind fun x6 =>
          (rdO b2 x4).bind fun x7 =>
          if (x6 != x7) = true then
            some (.inr (.inr false))
          else
            some (.inl (IntKind.wrap .i64 (x4 + 1)))
        else
          some (.inr (.inl ())) : Option (Int ⊕ (Unit ⊕ Bool)))) 0) : Option (Unit ⊕ Bool)).bind fun j3 => match j3 with
    | .inr o => some o
    | .inl _ =>
    some true
theorem pcashbookref18_Accounts_ag : agreeF Try.prog Try.f33 pcashbookref18_Accounts = true := by kernel_rfl
theorem cashbookref18_Accounts_ok {a1 : List Int} {b2 : List Int} {r : Bool} (h : cashbookref18_Accounts a1 b2 = some r) : Contract Try.prog 33 [.pv (.slice (List.map (eInt .i64) a1)), .pv (.slice (List.map (eInt .i64) b2))] [] ⟨.pv (.bool r), [], []⟩ := by
  refine contract_fin hm Try.func33 pcashbookref18_Accounts_ag (by kernel_rfl) ?_
  unfold cashbookref18_Accounts at h
  refine W.seqOps (RunR.all (by kernel_rfl)) ?_
  refine W.assoc ?_
  refine W.seqOps (RunR.stat 1 (by kernel_rfl) (RunR.dyn (Step.lenT (f := (eInt .i64)) (l := a1) (by kernel_rfl)) (RunR.stat 1 (by kernel_rfl) (RunR.dyn (Step.lenT (f := (eInt .i64)) (l := b2) (by kernel_rfl)) (RunR.all (by kernel_rfl)))))) ?_
  refine W.seqCond (t := ((a1.length : Int) != (b2.length : Int))) (by kernel_rfl) h (fun hc h' => ?_) (fun hc h' => ?_)
  · replace h := h'
    refine W.assoc ?_
    refine W.seqOps (RunR.all (by kernel_rfl)) ?_
    cases h
    exact W.seqRet (fin_ret (by kernel_rfl))
  · replace h := h'
    refine W.seqSkip ?_
    refine W.assoc ?_
    refine W.seqOps (RunR.stat 1 (by kernel_rfl) (RunR.dyn (Step.lenT (f := (eInt .i64)) (l := a1) (by kernel_rfl)) (RunR.all (by kernel_rfl)))) ?_
    replace h := bindS h
    obtain ⟨j3, hj3, h⟩ := h
    refine W.joinOut (j := j3) (o := r) (fun p σ => σ.tidy [] [] [] [] = ⟨[], []⟩) ?_ (fun p σj3 hp hsj3 => ?_) (fun p hp => ?_)
    · refine W.blockLoopO (fun q σ => ((σ.forget [0, 1, 12, 13]).killAll []).tidy [] [(0, false), (1, false), (12, false), (13, false)] [] [] = ⟨[(0, .pv (.slice (List.map (eInt .i64) a1))), (1, .pv (.slice (List.map (eInt .i64) b2))), (12, .pv (.int .i64 (a1.length : Int))), (13, .pv (.int .i64 q))], []⟩) hj3 ?_ ?_
      · exact (by (show _ = _); kernel_rfl)
      · intro x4 σj3 oj3 hJj3 h
        refine W.keep hJj3 ?_
        refine W.seqOps (RunR.all (by kernel_rfl)) ?_
        refine W.seqCond (t := decide (x4 < (a1.length : Int))) (by kernel_rfl) h (fun hc h' => ?_) (fun hc h' => ?_)
        · replace h := h'
          refine W.seqSkip ?_
          refine W.seqPass ?_
          refine W.assoc ?_
          refine W.seqOps (RunR.all (by kernel_rfl)) ?_
          refine W.assoc ?_
          replace h := bindS h
          obtain ⟨x6, hx6, h⟩ := h
          replace h := bindS h
          obtain ⟨x7, hx7, h⟩ := h
          refine W.seqDraw tab_nil (Run.stat 2 (by kernel_rfl) (Run.dyn (Step.idxT (f := (eInt .i64)) (l := a1) (n := x4) (e := x6) (k := .i64) (by kernel_rfl) (by kernel_rfl) hx6 (by kernel_rfl)) (Run.stat 3 (by kernel_rfl) (Run.dyn (Step.idxT (f := (eInt .i64)) (l := b2) (n := x4) (e := x7) (k := .i64) (by kernel_rfl) (by kernel_rfl) hx7 (by kernel_rfl)) (Run.all (by kernel_rfl)))))) ?_
          refine W.seqCond (t := (x6 != x7)) (by kernel_rfl) h (fun hc h' => ?_) (fun hc h' => ?_)
          · replace h := h'
            refine W.assoc ?_
            refine W.seqOps (RunR.all (by kernel_rfl)) ?_
            cases h
            exact W.seqRet (outw_out ret_ne (bout_o ret_ne ret_ne' (fun e => by subst e; exact (fin_ret (by kernel_rfl)))))
          · replace h := h'
            refine W.seqSkip ?_
            refine W.ops (RunR.all (by kernel_rfl)) ?_
            cases h
            exact (outw_in (by (show _ = _); kernel_rfl))
        · replace h := h'
          cases h
          exact W.seqExit (outw_out exit_ne (bout_x (by (show _ = _); kernel_rfl)))
    · subst hp
      obtain ⟨⟩ := p
      refine W.seqKeep hsj3 ?_
      refine W.seqOps (RunR.all (by kernel_rfl)) ?_
      cases h
      exact W.ret ((fin_ret (by kernel_rfl)))
    · subst hp
      exact Option.some.inj h
def pcashbookref18_Placer0 : List GOp := [⟨(some 4), none, .mov (.cst (.int .i64 0))⟩]
def pcashbookref18_Placer1 : List GOp := [⟨(some 7), none, .mov (.tmp 0)⟩, ⟨(some 8), none, .len false (.tmp 7)⟩, ⟨(some 9), none, .mov (.cst (.int .i64 0))⟩]
def pcashbookref18_Placer2 : List GOp := [⟨(some 10), none, .bin false .lss (.tmp 9) (.tmp 8)⟩]
def pcashbookref18_Placer3 : List GOp := [⟨(some 11), none, .mov (.tmp 9)⟩, ⟨(some 12), none, .idx 8 (.tmp 7) (.tmp 9)⟩, ⟨(some 13), none, .load true 8 (.tmp 12)⟩, ⟨(some 6), none, .alloc [.pv (.int .i64 0), .pv (.int .i64 0), .pv (.int .i64 0), .pv (.int .i64 0), .pv (.int .i64 0), .pv (.int .i64 0), .pv (.int .i32 0), .pv (.int .i32 0)]⟩, ⟨(some 5), none, .mov (.tmp 11)⟩, ⟨none, none, .store 8 (.tmp 6) (.tmp 13)⟩]
def pcashbookref18_Placer4 : List GOp := [⟨(some 14), none, .fld 0 (.tmp 6)⟩, ⟨(some 15), none, .load false 1 (.tmp 14)⟩, ⟨(some 16), none, .mov (.tmp 1)⟩, ⟨(some 17), none, .bin false .eql (.tmp 15) (.tmp 16)⟩]
def pcashbookref18_Placer5 : List GOp := [⟨(some 18), none, .mov (.tmp 5)⟩, ⟨(some 4), none, .mov (.tmp 18)⟩]
def pcashbookref18_Placer6 : List GOp := [⟨(some 19), none, .bin false .add (.tmp 9) (.cst (.int .i64 1))⟩, ⟨(some 9), none, .mov (.tmp 19)⟩]
def pcashbookref18_Placel7 : AC := (.keep [] [(1, false), (7, false), (8, false), (9, false)] [] [.loc 6 0] (.seq (.ops pcashbookref18_Placer2) (.seq (.cond (.tmp 10) .skip (.exit 0)) (.seq (.pass 1 (.seq (.ops pcashbookref18_Placer3) (.seq (.ops pcashbookref18_Placer4) (.cond (.tmp 17) (.seq (.ops pcashbookref18_Placer5) .ret) .skip)))) (.ops pcashbookref18_Placer6)))))
def pcashbookref18_Placer8 : List GOp := [⟨(some 4), none, .mov (.cst (.int .i64 (-1)))⟩]
def pcashbookref18_Placeb : AC := (.seq (.ops pcashbookref18_Placer0) (.seq (.seq (.ops pcashbookref18_Placer1) (.block 0 (.loop [1, 7, 8, 9] [] pcashbookref18_Placel7))) (.seq (.keep [] [] [] [] (.ops pcashbookref18_Placer8)) .ret)))
def pcashbookref18_Place : Fd := ⟨2, [.tmp 4], pcashbookref18_Placeb⟩
/-- cashbook/cashbookref18.Place -/
noncomputable def cashbookref18_Place (l1 : List T_api_Record) (a2 : Int) : Option Int :=
  ((loopO (fun (qj3 : Int) => match qj3 with
    | x4 => (
      if (decide (x4 < (l1.length : Int))) = true then
        (rdO l1 x4).bind fun x6 =>
        if (x6.f_Acc == a2) = true then
          some (.inr (.inr x4))
        else
          some (.inl (IntKind.wrap .i64 (x4 + 1)))
      else
        some (.inr (.inl ())) : Option (Int ⊕ (Unit ⊕ Int)))) 0) : Option (Unit ⊕ Int)).bind fun j3 => match j3 with
  | .inr o => some o
  | .inl _ =>
  some (-1)
theorem pcashbookref18_Place_ag : agreeF Try.prog Try.f25 pcashbookref18_Place = true := by kernel_rfl
theorem cashbookref18_Place_ok {l1 : List T_api_Record} {a2 : Int} {r : Int} (h : cashbookref18_Place l1 a2 = some r) : Contract Try.prog 25 [.pv (.slice (List.map T_api_Record.pv l1)), .pv (.int .i64 a2)] [] ⟨.pv (.int .i64 r), [], []⟩ := by
  refine contract_fin hm Try.func25 pcashbookref18_Place_ag (by kernel_rfl) ?_
  unfold cashbookref18_Place at h
  refine W.seqOps (RunR.all (by kernel_rfl)) ?_
  refine W.assoc ?_
  refine W.seqOps (RunR.stat 1 (by kernel_rfl) (RunR.dyn (Step.lenT (f := T_api_Record.pv) (l := l1) (by kernel_rfl)) (RunR.all (by kernel_rfl)))) ?_
  replace h := bindS h
  obtain ⟨j3, hj3, h⟩ := h
  refine W.joinOut (j := j3) (o := r) (fun p σ => σ.tidy [] [] [] [] = ⟨[], []⟩) ?_ (fun p σj3 hp hsj3 => ?_) (fun p hp => ?_)
  · refine W.blockLoopO (fun q σ => ((σ.forget [1, 7, 8, 9]).killAll []).tidy [] [(1, false), (7, false), (8, false), (9, false)] [] [.loc 6 0] = ⟨[(1, .pv (.int .i64 a2)), (7, .pv (.slice (List.map T_api_Record.pv l1))), (8, .pv (.int .i64 (l1.length : Int))), (9, .pv (.int .i64 q))], []⟩) hj3 ?_ ?_
    · exact (by (show _ = _); kernel_rfl)
    · intro x4 σj3 oj3 hJj3 h
      refine W.keep hJj3 ?_
      refine W.seqOps (RunR.all (by kernel_rfl)) ?_
      refine W.seqCond (t := decide (x4 < (l1.length : Int))) (by kernel_rfl) h (fun hc h' => ?_) (fun hc h' => ?_)
      · replace h := h'
        refine W.seqSkip ?_
        refine W.seqPass ?_
        refine W.assoc ?_
        replace h := bindS h
        obtain ⟨x6, hx6, h⟩ := h
        refine W.seqOps (RunR.stat 1 (by kernel_rfl) (RunR.dyn (Step.idxT (f := T_api_Record.pv) (l := l1) (n := x4) (e := x6) (k := .i64) (by kernel_rfl) (by kernel_rfl) hx6 (by kernel_rfl)) (RunR.all (by kernel_rfl)))) ?_
        refine W.assoc ?_
        refine W.seqOps (RunR.all (by kernel_rfl)) ?_
        refine W.seqCond (t := (x6.f_Acc == a2)) (by kernel_rfl) h (fun hc h' => ?_) (fun hc h' => ?_)
        · replace h := h'
          refine W.assoc ?_
          refine W.seqOps (RunR.all (by kernel_rfl)) ?_
          cases h
          exact W.seqRet (outw_out ret_ne (bout_o ret_ne ret_ne' (fun e => by subst e; exact (fin_ret (by kernel_rfl)))))
        · replace h := h'
          refine W.seqSkip ?_
          refine W.ops (RunR.all (by kernel_rfl)) ?_
          cases h
          exact (outw_in (by (show _ = _); kernel_rfl))
      · replace h := h'
        cases h
        exact W.seqExit (outw_out exit_ne (bout_x (by (show _ = _); kernel_rfl)))
  · subst hp
    obtain ⟨⟩ := p
    refine W.seqKeep hsj3 ?_
    refine W.seqOps (RunR.all (by kernel_rfl)) ?_
    cases h
    exact W.ret ((fin_ret (by kernel_rfl)))
  · subst hp
    exact Option.some.inj h
def pcashbooklaw18_ChartTellsr0 : List GOp := [⟨(some 5), none, .box (.tmp 0)⟩, ⟨(some 10), none, .mov (.cst (.bool false))⟩]
def pcashbooklaw18_ChartTellsr1 : List GOp := [⟨(some 22), none, .load true 2 (.tmp 5)⟩, ⟨(some 23), none, .call 0 false (.cst (.fn 12)) [(.tmp 22)]⟩, ⟨none, none, .store 2 (.tmp 5) (.tmp 23)⟩]
def pcashbooklaw18_ChartTellsr2 : List GOp := [⟨(some 25), none, .load true 2 (.tmp 5)⟩, ⟨(some 26), none, .mov (.tmp 1)⟩, ⟨(some 27), none, .call 0 false (.cst (.fn 29)) [(.tmp 25), (.tmp 26)]⟩, ⟨(some 24), none, .mov (.tmp 27)⟩, ⟨(some 28), none, .ext 0 (.tmp 24)⟩, ⟨(some 29), none, .ext 1 (.tmp 24)⟩, ⟨(some 11), none, .alloc [.pv (.int .i64 0), .pv (.int .i64 0), .pv (.int .i64 0), .pv (.int .i64 0), .pv (.int .i64 0), .pv (.int .i64 0), .pv (.int .i32 0), .pv (.int .i32 0)]⟩, ⟨none, none, .store 8 (.tmp 11) (.tmp 28)⟩, ⟨(some 12), none, .mov (.tmp 29)⟩]
def pcashbooklaw18_ChartTellsr3 : List GOp := [⟨(some 31), none, .load true 2 (.tmp 5)⟩, ⟨(some 32), none, .mov (.tmp 1)⟩, ⟨(some 33), none, .mov (.tmp 2)⟩, ⟨(some 34), none, .call 0 false (.cst (.fn 30)) [(.tmp 31), (.tmp 32), (.tmp 33)]⟩, ⟨(some 30), none, .mov (.tmp 34)⟩, ⟨(some 35), none, .ext 0 (.tmp 30)⟩, ⟨(some 36), none, .ext 1 (.tmp 30)⟩, ⟨(some 13), none, .mov (.tmp 35)⟩, ⟨(some 14), none, .mov (.tmp 36)⟩]
def pcashbooklaw18_ChartTellsr4 : List GOp := [⟨(some 38), none, .load true 2 (.tmp 5)⟩, ⟨(some 39), none, .mov (.tmp 3)⟩, ⟨(some 40), none, .call 0 false (.cst (.fn 31)) [(.tmp 38), (.tmp 39)]⟩, ⟨(some 37), none, .mov (.tmp 40)⟩, ⟨(some 41), none, .ext 0 (.tmp 37)⟩, ⟨(some 42), none, .ext 1 (.tmp 37)⟩, ⟨(some 43), none, .ext 2 (.tmp 37)⟩, ⟨(some 15), none, .alloc [.pv (.int .i64 0), .pv (.str []), .pv (.int .i64 0)]⟩, ⟨none, none, .store 3 (.tmp 15) (.tmp 41)⟩, ⟨(some 16), none, .mov (.tmp 42)⟩, ⟨(some 17), none, .mov (.tmp 43)⟩]
def pcashbooklaw18_ChartTellsr5 : List GOp := [⟨(some 45), none, .mov (.tmp 4)⟩, ⟨(some 46), none, .call 0 false (.cst (.fn 32)) [(.tmp 45)]⟩, ⟨(some 44), none, .mov (.tmp 46)⟩, ⟨(some 47), none, .ext 0 (.tmp 44)⟩, ⟨(some 48), none, .ext 1 (.tmp 44)⟩, ⟨(some 18), none, .mov (.tmp 47)⟩, ⟨(some 19), none, .mov (.tmp 48)⟩]
def pcashbooklaw18_ChartTellsr6 : List GOp := [⟨(some 49), none, .mov (.tmp 4)⟩, ⟨(some 50), none, .bin false .lss (.tmp 49) (.cst (.int .i64 0))⟩, ⟨(some 51), none, .mov (.tmp 50)⟩, ⟨(some 52), (some (51, false)), .mov (.tmp 4)⟩, ⟨(some 53), (some (51, false)), .bin false .gtr (.tmp 52) (.cst (.int .i64 3))⟩, ⟨(some 54), none, .pick (.tmp 51) (.cst (.bool true)) (.tmp 53)⟩]
def pcashbooklaw18_ChartTellsr7 : List GOp := [⟨(some 55), none, .mov (.tmp 19)⟩, ⟨(some 56), none, .bin false .neq (.tmp 55) (.cst (.int .i64 1))⟩, ⟨(some 57), none, .mov (.tmp 56)⟩, ⟨(some 58), (some (57, false)), .mov (.tmp 18)⟩, ⟨(some 59), (some (57, false)), .bin false .neq (.tmp 58) (.cst (.int .i64 0))⟩, ⟨(some 60), none, .pick (.tmp 57) (.cst (.bool true)) (.tmp 59)⟩]
def pcashbooklaw18_ChartTellsr8 : List GOp := [⟨(some 10), none, .mov (.cst (.bool false))⟩]
def pcashbooklaw18_ChartTellsr9 : List GOp := [⟨(some 61), none, .mov (.tmp 19)⟩, ⟨(some 62), none, .bin false .neq (.tmp 61) (.cst (.int .i64 0))⟩, ⟨(some 63), none, .mov (.tmp 62)⟩, ⟨(some 64), (some (63, false)), .mov (.tmp 18)⟩, ⟨(some 65), (some (63, false)), .mov (.tmp 4)⟩, ⟨(some 66), (some (63, false)), .bin false .add (.tmp 65) (.cst (.int .i64 1))⟩, ⟨(some 67), (some (63, false)), .bin false .quo (.tmp 66) (.cst (.int .i64 2))⟩, ⟨(some 68), (some (63, false)), .bin false .rem (.tmp 67) (.cst (.int .i64 2))⟩, ⟨(some 69), (some (63, false)), .bin false .mul (.cst (.int .i64 2)) (.tmp 68)⟩, ⟨(some 70), (some (63, false)), .bin false .sub (.cst (.int .i64 1)) (.tmp 69)⟩, ⟨(some 71), (some (63, false)), .bin false .neq (.tmp 64) (.tmp 70)⟩, ⟨(some 72), none, .pick (.tmp 63) (.cst (.bool true)) (.tmp 71)⟩]
def pcashbooklaw18_ChartTellsr10 : List GOp := [⟨(some 10), none, .mov (.cst (.bool false))⟩]
def pcashbooklaw18_ChartTellsr11 : List GOp := [⟨(some 73), none, .load true 2 (.tmp 5)⟩, ⟨(some 74), none, .call 0 false (.cst (.fn 17)) [(.tmp 73)]⟩, ⟨(some 75), none, .un .not (.tmp 74)⟩]
def pcashbooklaw18_ChartTellsr12 : List GOp := [⟨(some 76), none, .call 0 false (.cst (.fn 18)) []⟩, ⟨(some 77), none, .mov (.tmp 76)⟩, ⟨(some 78), (some (77, true)), .mov (.tmp 12)⟩, ⟨(some 79), (some (77, true)), .bin false .eql (.tmp 78) (.cst (.int .i64 1))⟩, ⟨(some 80), none, .pick (.tmp 77) (.tmp 79) (.cst (.bool false))⟩, ⟨(some 81), none, .mov (.tmp 80)⟩, ⟨(some 82), (some (81, true)), .mov (.tmp 14)⟩, ⟨(some 83), (some (81, true)), .bin false .eql (.tmp 82) (.cst (.int .i64 1))⟩, ⟨(some 84), none, .pick (.tmp 81) (.tmp 83) (.cst (.bool false))⟩, ⟨(some 85), none, .mov (.tmp 84)⟩, ⟨(some 86), (some (85, true)), .mov (.tmp 17)⟩, ⟨(some 87), (some (85, true)), .bin false .eql (.tmp 86) (.cst (.int .i64 1))⟩, ⟨(some 88), none, .pick (.tmp 85) (.tmp 87) (.cst (.bool false))⟩, ⟨(some 89), none, .mov (.tmp 88)⟩, ⟨(some 90), (some (89, true)), .load true 8 (.tmp 11)⟩, ⟨(some 91), (some (89, true)), .build [.pv (.int .i64 0), .pv (.int .i64 0), .pv (.int .i64 0), .pv (.int .i64 0), .pv (.int .i64 0), .pv (.int .i64 0), .pv (.int .i32 0), .pv (.int .i32 0)] []⟩, ⟨(some 92), (some (89, true)), .eqs false [.i, .i, .i, .i, .i, .i, .i, .i] (.tmp 90) (.tmp 91)⟩, ⟨(some 93), none, .pick (.tmp 89) (.tmp 92) (.cst (.bool false))⟩, ⟨(some 94), none, .mov (.tmp 93)⟩, ⟨(some 95), (some (94, true)), .mov (.tmp 13)⟩, ⟨(some 96), (some (94, true)), .un .not (.tmp 95)⟩, ⟨(some 97), none, .pick (.tmp 94) (.tmp 96) (.cst (.bool false))⟩, ⟨(some 98), none, .mov (.tmp 97)⟩, ⟨(some 99), (some (98, true)), .load true 3 (.tmp 15)⟩, ⟨(some 100), (some (98, true)), .build [.pv (.int .i64 0), .pv (.str []), .pv (.int .i64 0)] []⟩, ⟨(some 101), (some (98, true)), .eqs false [.i, .s, .i] (.tmp 99) (.tmp 100)⟩, ⟨(some 102), none, .pick (.tmp 98) (.tmp 101) (.cst (.bool false))⟩, ⟨(some 103), none, .mov (.tmp 102)⟩, ⟨(some 104), (some (103, true)), .mov (.tmp 16)⟩, ⟨(some 105), (some (103, true)), .len false (.tmp 104)⟩, ⟨(some 106), (some (103, true)), .bin false .eql (.tmp 105) (.cst (.int .i64 0))⟩, ⟨(some 107), none, .pick (.tmp 103) (.tmp 106) (.cst (.bool false))⟩, ⟨(some 10), none, .mov (.tmp 107)⟩]
def pcashbooklaw18_ChartTellsr13 : List GOp := [⟨(some 108), none, .fld 0 (.tmp 5)⟩, ⟨(some 109), none, .load false 1 (.tmp 108)⟩, ⟨(some 110), none, .mov (.tmp 3)⟩, ⟨(some 111), none, .call 0 false (.cst (.fn 21)) [(.tmp 109), (.tmp 110)]⟩, ⟨(some 20), none, .mov (.tmp 111)⟩]
def pcashbooklaw18_ChartTellsr14 : List GOp := [⟨(some 112), none, .mov (.tmp 20)⟩, ⟨(some 113), none, .bin false .lss (.tmp 112) (.cst (.int .i64 0))⟩]
def pcashbooklaw18_ChartTellsr15 : List GOp := [⟨(some 114), none, .mov (.tmp 17)⟩, ⟨(some 115), none, .bin false .neq (.tmp 114) (.cst (.int .i64 8))⟩, ⟨(some 116), none, .mov (.tmp 115)⟩, ⟨(some 117), (some (116, false)), .load true 3 (.tmp 15)⟩, ⟨(some 118), (some (116, false)), .build [.pv (.int .i64 0), .pv (.str []), .pv (.int .i64 0)] []⟩, ⟨(some 119), (some (116, false)), .eqs true [.i, .s, .i] (.tmp 117) (.tmp 118)⟩, ⟨(some 120), none, .pick (.tmp 116) (.cst (.bool true)) (.tmp 119)⟩, ⟨(some 121), none, .mov (.tmp 120)⟩, ⟨(some 122), (some (121, false)), .mov (.tmp 16)⟩, ⟨(some 123), (some (121, false)), .len false (.tmp 122)⟩, ⟨(some 124), (some (121, false)), .bin false .neq (.tmp 123) (.cst (.int .i64 0))⟩, ⟨(some 125), none, .pick (.tmp 121) (.cst (.bool true)) (.tmp 124)⟩]
def pcashbooklaw18_ChartTellsr16 : List GOp := [⟨(some 10), none, .mov (.cst (.bool false))⟩]
def pcashbooklaw18_ChartTellsr17 : List GOp := [⟨(some 126), none, .mov (.tmp 17)⟩, ⟨(some 127), none, .bin false .neq (.tmp 126) (.cst (.int .i64 0))⟩, ⟨(some 128), none, .mov (.tmp 127)⟩, ⟨(some 129), (some (128, false)), .load true 3 (.tmp 15)⟩, ⟨(some 130), (some (128, false)), .fld 0 (.tmp 5)⟩, ⟨(some 131), (some (128, false)), .load false 1 (.tmp 130)⟩, ⟨(some 132), (some (128, false)), .mov (.tmp 20)⟩, ⟨(some 133), (some (128, false)), .idx 3 (.tmp 131) (.tmp 132)⟩, ⟨(some 134), (some (128, false)), .load true 3 (.tmp 133)⟩, ⟨(some 135), (some (128, false)), .eqs true [.i, .s, .i] (.tmp 129) (.tmp 134)⟩, ⟨(some 136), none, .pick (.tmp 128) (.cst (.bool true)) (.tmp 135)⟩, ⟨(some 137), none, .mov (.tmp 136)⟩, ⟨(some 138), (some (137, false)), .mov (.tmp 16)⟩, ⟨(some 139), (some (137, false)), .load true 2 (.tmp 5)⟩, ⟨(some 140), (some (137, false)), .mov (.tmp 3)⟩, ⟨(some 141), (some (137, false)), .call 0 false (.cst (.fn 34)) [(.tmp 139), (.tmp 140)]⟩, ⟨(some 142), (some (137, false)), .call 0 false (.cst (.fn 33)) [(.tmp 138), (.tmp 141)]⟩, ⟨(some 143), (some (137, false)), .un .not (.tmp 142)⟩, ⟨(some 144), none, .pick (.tmp 137) (.cst (.bool true)) (.tmp 143)⟩]
def pcashbooklaw18_ChartTellsr18 : List GOp := [⟨(some 10), none, .mov (.cst (.bool false))⟩]
def pcashbooklaw18_ChartTellsr19 : List GOp := [⟨(some 145), none, .fld 1 (.tmp 5)⟩, ⟨(some 146), none, .load false 1 (.tmp 145)⟩, ⟨(some 147), none, .mov (.tmp 1)⟩, ⟨(some 148), none, .call 0 false (.cst (.fn 25)) [(.tmp 146), (.tmp 147)]⟩, ⟨(some 21), none, .mov (.tmp 148)⟩]
def pcashbooklaw18_ChartTellsr20 : List GOp := [⟨(some 149), none, .mov (.tmp 21)⟩, ⟨(some 150), none, .bin false .lss (.tmp 149) (.cst (.int .i64 0))⟩]
def pcashbooklaw18_ChartTellsr21 : List GOp := [⟨(some 151), none, .call 0 false (.cst (.fn 18)) []⟩, ⟨(some 152), none, .mov (.tmp 151)⟩, ⟨(some 153), (some (152, true)), .mov (.tmp 12)⟩, ⟨(some 154), (some (152, true)), .bin false .eql (.tmp 153) (.cst (.int .i64 8))⟩, ⟨(some 155), none, .pick (.tmp 152) (.tmp 154) (.cst (.bool false))⟩, ⟨(some 156), none, .mov (.tmp 155)⟩, ⟨(some 157), (some (156, true)), .mov (.tmp 14)⟩, ⟨(some 158), (some (156, true)), .bin false .eql (.tmp 157) (.cst (.int .i64 8))⟩, ⟨(some 159), none, .pick (.tmp 156) (.tmp 158) (.cst (.bool false))⟩, ⟨(some 160), none, .mov (.tmp 159)⟩, ⟨(some 161), (some (160, true)), .load true 8 (.tmp 11)⟩, ⟨(some 162), (some (160, true)), .build [.pv (.int .i64 0), .pv (.int .i64 0), .pv (.int .i64 0), .pv (.int .i64 0), .pv (.int .i64 0), .pv (.int .i64 0), .pv (.int .i32 0), .pv (.int .i32 0)] []⟩, ⟨(some 163), (some (160, true)), .eqs false [.i, .i, .i, .i, .i, .i, .i, .i] (.tmp 161) (.tmp 162)⟩, ⟨(some 164), none, .pick (.tmp 160) (.tmp 163) (.cst (.bool false))⟩, ⟨(some 165), none, .mov (.tmp 164)⟩, ⟨(some 166), (some (165, true)), .mov (.tmp 13)⟩, ⟨(some 167), (some (165, true)), .un .not (.tmp 166)⟩, ⟨(some 168), none, .pick (.tmp 165) (.tmp 167) (.cst (.bool false))⟩, ⟨(some 10), none, .mov (.tmp 168)⟩]
def pcashbooklaw18_ChartTellsr22 : List GOp := [⟨(some 169), none, .mov (.tmp 12)⟩, ⟨(some 170), none, .bin false .neq (.tmp 169) (.cst (.int .i64 0))⟩, ⟨(some 171), none, .mov (.tmp 170)⟩, ⟨(some 172), (some (171, false)), .load true 8 (.tmp 11)⟩, ⟨(some 173), (some (171, false)), .fld 1 (.tmp 5)⟩, ⟨(some 174), (some (171, false)), .load false 1 (.tmp 173)⟩, ⟨(some 175), (some (171, false)), .mov (.tmp 21)⟩, ⟨(some 176), (some (171, false)), .idx 8 (.tmp 174) (.tmp 175)⟩, ⟨(some 177), (some (171, false)), .load true 8 (.tmp 176)⟩, ⟨(some 178), (some (171, false)), .eqs true [.i, .i, .i, .i, .i, .i, .i, .i] (.tmp 172) (.tmp 177)⟩, ⟨(some 179), none, .pick (.tmp 171) (.cst (.bool true)) (.tmp 178)⟩, ⟨(some 180), none, .mov (.tmp 179)⟩, ⟨(some 181), (some (180, false)), .call 0 false (.cst (.fn 18)) []⟩, ⟨(some 182), (some (180, false)), .un .not (.tmp 181)⟩, ⟨(some 183), none, .pick (.tmp 180) (.cst (.bool true)) (.tmp 182)⟩]
def pcashbooklaw18_ChartTellsr23 : List GOp := [⟨(some 10), none, .mov (.cst (.bool false))⟩]
def pcashbooklaw18_ChartTellsr24 : List GOp := [⟨(some 184), none, .mov (.tmp 2)⟩, ⟨(some 185), none, .call 0 false (.cst (.fn 27)) [(.tmp 184)]⟩, ⟨(some 186), none, .un .not (.tmp 185)⟩]
def pcashbooklaw18_ChartTellsr25 : List GOp := [⟨(some 187), none, .mov (.tmp 14)⟩, ⟨(some 188), none, .bin false .eql (.tmp 187) (.cst (.int .i64 11))⟩, ⟨(some 189), none, .mov (.tmp 188)⟩, ⟨(some 190), (some (189, true)), .mov (.tmp 13)⟩, ⟨(some 191), (some (189, true)), .un .not (.tmp 190)⟩, ⟨(some 192), none, .pick (.tmp 189) (.tmp 191) (.cst (.bool false))⟩, ⟨(some 10), none, .mov (.tmp 192)⟩]
def pcashbooklaw18_ChartTellsr26 : List GOp := [⟨(some 193), none, .mov (.tmp 14)⟩, ⟨(some 194), none, .bin false .eql (.tmp 193) (.cst (.int .i64 0))⟩, ⟨(some 195), none, .mov (.tmp 194)⟩, ⟨(some 196), (some (195, true)), .mov (.tmp 13)⟩, ⟨(some 197), (some (195, true)), .mov (.tmp 2)⟩, ⟨(some 198), (some (195, true)), .fld 6 (.tmp 11)⟩, ⟨(some 199), (some (195, true)), .load false 1 (.tmp 198)⟩, ⟨(some 200), (some (195, true)), .bin false .geq (.tmp 197) (.tmp 199)⟩, ⟨(some 201), (some (195, true)), .mov (.tmp 200)⟩, ⟨(some 202), (some (201, true)), .mov (.tmp 2)⟩, ⟨(some 203), (some (201, true)), .fld 7 (.tmp 11)⟩, ⟨(some 204), (some (201, true)), .load false 1 (.tmp 203)⟩, ⟨(some 205), (some (201, true)), .bin false .leq (.tmp 202) (.tmp 204)⟩, ⟨(some 206), (some (195, true)), .pick (.tmp 201) (.tmp 205) (.cst (.bool false))⟩, ⟨(some 207), (some (195, true)), .bin true .eql (.tmp 196) (.tmp 206)⟩, ⟨(some 208), none, .pick (.tmp 195) (.tmp 207) (.cst (.bool false))⟩, ⟨(some 10), none, .mov (.tmp 208)⟩]
def pcashbooklaw18_ChartTellsb : AC := (.seq (.ops pcashbooklaw18_ChartTellsr0) (.seq (.ops pcashbooklaw18_ChartTellsr1) (.seq (.ops pcashbooklaw18_ChartTellsr2) (.seq (.ops pcashbooklaw18_ChartTellsr3) (.seq (.ops pcashbooklaw18_ChartTellsr4) (.seq (.ops pcashbooklaw18_ChartTellsr5) (.seq (.seq (.ops pcashbooklaw18_ChartTellsr6) (.cond (.tmp 54) (.seq (.ops pcashbooklaw18_ChartTellsr7) (.cond (.tmp 60) (.seq (.ops pcashbooklaw18_ChartTellsr8) .ret) .skip)) (.seq (.ops pcashbooklaw18_ChartTellsr9) (.cond (.tmp 72) (.seq (.ops pcashbooklaw18_ChartTellsr10) .ret) .skip)))) (.seq (.seq (.keep [] [(1, false), (2, false), (3, false), (5, false), (11, false), (12, false), (13, false), (14, false), (15, false), (16, false), (17, false)] [(.loc 5 0, false), (.loc 11 0, false), (.loc 15 0, false)] [] (.ops pcashbooklaw18_ChartTellsr11)) (.cond (.tmp 75) (.seq (.ops pcashbooklaw18_ChartTellsr12) .ret) .skip)) (.seq (.seq (.ops pcashbooklaw18_ChartTellsr13) (.seq (.ops pcashbooklaw18_ChartTellsr14) (.cond (.tmp 113) (.seq (.ops pcashbooklaw18_ChartTellsr15) (.cond (.tmp 125) (.seq (.ops pcashbooklaw18_ChartTellsr16) .ret) .skip)) (.seq (.draw [] pcashbooklaw18_ChartTellsr17) (.cond (.tmp 144) (.seq (.ops pcashbooklaw18_ChartTellsr18) .ret) .skip))))) (.seq (.keep [] [(1, false), (2, false), (5, false), (11, false), (12, false), (13, false), (14, false)] [(.loc 5 0, false), (.loc 11 0, false)] [.loc 15 0] (.ops pcashbooklaw18_ChartTellsr19)) (.seq (.seq (.ops pcashbooklaw18_ChartTellsr20) (.cond (.tmp 150) (.seq (.ops pcashbooklaw18_ChartTellsr21) .ret) .skip)) (.seq (.seq (.draw [] pcashbooklaw18_ChartTellsr22) (.cond (.tmp 183) (.seq (.ops pcashbooklaw18_ChartTellsr23) .ret) .skip)) (.seq (.seq (.ops pcashbooklaw18_ChartTellsr24) (.cond (.tmp 186) (.seq (.ops pcashbooklaw18_ChartTellsr25) .ret) .skip)) (.seq (.ops pcashbooklaw18_ChartTellsr26) .ret))))))))))))))
def pcashbooklaw18_ChartTells : Fd := ⟨5, [.tmp 10], pcashbooklaw18_ChartTellsb⟩
/-- cashbook/cashbooklaw18.ChartTells -/
noncomputable def cashbooklaw18_ChartTells (c1 : T_api_Chart) (a2 : Int) (day3 : Int) (id4 : Int) (kind5 : Int) : Option Bool :=
  (cashbooklaw18_few c1).bind fun x6 =>
  (chart_Find x6 a2).bind fun x7 =>
  (chart_Is x6 a2 day3).bind fun x8 =>
  (chart_Who x6 id4).bind fun x9 =>
  (chart_Side kind5).bind fun x10 =>
  (some (decide (kind5 < 0))).bind fun c11 =>
  ((if (c11 || (decide (kind5 > 3))) = true then
    (some (x10.2 != 1)).bind fun c13 =>
    if (c13 || (x10.1 != 0)) = true then
      some (.inr false)
    else
      some (.inl ())
  else
    (some (x10.2 != 0)).bind fun c14 =>
    if (c14 || (x10.1 != (IntKind.wrap .i64 (1 - (IntKind.wrap .i64 (2 * (Int.tmod (IntKind.wrap .i64 (Int.tdiv (IntKind.wrap .i64 (kind5 + 1)) 2)) 2))))))) = true then
      some (.inr false)
    else
      some (.inl ())) : Option (Unit ⊕ Bool)).bind fun j12 => match j12 with
  | .inr o => some o
  | .inl _ =>
  (cashbookref18_Right x6).bind fun x16 =>
  if (!x16) = true then
    (cashbooklaw18_alive).bind fun x17 =>
    (some (x17 && (x7.2 == 1))).bind fun c18 =>
    (some (c18 && (x8.2 == 1))).bind fun c19 =>
    (some (c19 && (x9.2.2 == 1))).bind fun c20 =>
    (some (c20 && (T_api_Record.same x7.1 (⟨0, 0, 0, 0, 0, 0, 0, 0⟩ : T_api_Record)))).bind fun c21 =>
    (some (c21 && (!x8.1))).bind fun c22 =>
    (some (c22 && (T_api_Customer.same x9.1 (⟨0, [], 0⟩ : T_api_Customer)))).bind fun c23 =>
    some (c23 && ((x9.2.1.length : Int) == 0))
  else
    (cashbookref18_PlaceOf x6.f_Customers id4).bind fun x24 =>
    ((if (decide (x24 < 0)) = true then
      (some (x9.2.2 != 8)).bind fun c26 =>
      (some (c26 || (!(T_api_Customer.same x9.1 (⟨0, [], 0⟩ : T_api_Customer))))).bind fun c27 =>
      if (c27 || ((x9.2.1.length : Int) != 0)) = true then
        some (.inr false)
      else
        some (.inl ())
    else
      (some (x9.2.2 != 0)).bind fun c28 =>
      (gdO (!c28) (rdO x6.f_Customers x24) (default : T_api_Customer)).bind fun x29 =>
      (some (c28 || (!(T_api_Customer.same x9.1 x29)))).bind fun c30 =>
      (gdO (!c30) (cashbookref18_Of x6 id4) (default : List Int)).bind fun x31 =>
      (gdO (!c30) (cashbookref18_Accounts x9.2.1 x31) (default : Bool)).bind fun x32 =>
      if (c30 || (!x32)) = true then
        some (.inr false)
      else
        some (.inl ())) : Option (Unit ⊕ Bool)).bind fun j25 => match j25 with
    | .inr o => some o
    | .inl _ =>
    (cashbookref18_Place x6.f_Records a2).bind fun x34 =>
    if (decide (x34 < 0)) = true then
      (cashbooklaw18_alive).bind fun x35 =>
      (some (x35 && (x7.2 == 8))).bind fun c36 =>
      (some (c36 && (x8.2 == 8))).bind fun c37 =>
      (some (c37 && (T_api_Record.same x7.1 (⟨0, 0, 0, 0, 0, 0, 0, 0⟩ : T_api_Record)))).bind fun c38 =>
      some (c38 && (!x8.1))
    else
      (some (x7.2 != 0)).bind fun c39 =>
      (gdO (!c39) (rdO x6.f_Records x34) (default : T_api_Record)).bind fun x40 =>
      (some (c39 || (!(T_api_Record.same x7.1 x40)))).bind fun c41 =>
      (gdO (!c41) (cashbooklaw18_alive) (default : Bool)).bind fun x42 =>
      if (c41 || (!x42)) = true then
        some false
      else
        (cashbookref04_Right day3).bind fun x43 =>
        if (!x43) = true then
          (some (x8.2 == 11)).bind fun c44 =>
          some (c44 && (!x8.1))
        else
          (some (x8.2 == 0)).bind fun c45 =>
          (some (decide (day3 ≥ x7.1.f_From))).bind fun c46 =>
          some (c45 && (x8.1 == (c46 && (decide (day3 ≤ x7.1.f_To)))))
theorem pcashbooklaw18_ChartTells_ag : agreeF Try.prog Try.f6 pcashbooklaw18_ChartTells = true := by kernel_rfl
theorem cashbooklaw18_ChartTells_ok {c1 : T_api_Chart} {a2 : Int} {day3 : Int} {id4 : Int} {kind5 : Int} {r : Bool} (h : cashbooklaw18_ChartTells c1 a2 day3 id4 kind5 = some r) : Contract Try.prog 6 [.pv (T_api_Chart.pv c1), .pv (.int .i64 a2), .pv (.int .i32 day3), .pv (.int .i64 id4), .pv (.int .i64 kind5)] [] ⟨.pv (.bool r), [], []⟩ := by
  refine contract_fin hm Try.func6 pcashbooklaw18_ChartTells_ag (by kernel_rfl) ?_
  unfold cashbooklaw18_ChartTells at h
  refine W.seqOps (RunR.all (by kernel_rfl)) ?_
  replace h := bindS h
  obtain ⟨x6, hx6, h⟩ := h
  refine W.seqOps (RunR.stat 1 (by kernel_rfl) (RunR.cons (tab_cons (on := true) (fun _ => cashbooklaw18_few_ok hx6) tab_nil) (Step.call (g := 12) (caps := []) (v := .pv (T_api_Chart.pv x6)) (by kernel_rfl) (by kernel_rfl) (tab_hit (by kernel_rfl)) (by kernel_rfl)) (RunR.all (by kernel_rfl)))) ?_
  replace h := bindS h
  obtain ⟨x7, hx7, h⟩ := h
  refine W.seqOps (RunR.stat 2 (by kernel_rfl) (RunR.cons (tab_cons (on := true) (fun _ => chart_Find_ok hx7) tab_nil) (Step.call (g := 29) (caps := []) (v := .tup [.pv (T_api_Record.pv x7.1), .pv (.int .i64 x7.2)]) (by kernel_rfl) (by kernel_rfl) (tab_hit (by kernel_rfl)) (by kernel_rfl)) (RunR.all (by kernel_rfl)))) ?_
  replace h := bindS h
  obtain ⟨x8, hx8, h⟩ := h
  refine W.seqOps (RunR.stat 3 (by kernel_rfl) (RunR.cons (tab_cons (on := true) (fun _ => chart_Is_ok hx8) tab_nil) (Step.call (g := 30) (caps := []) (v := .tup [.pv (.bool x8.1), .pv (.int .i64 x8.2)]) (by kernel_rfl) (by kernel_rfl) (tab_hit (by kernel_rfl)) (by kernel_rfl)) (RunR.all (by kernel_rfl)))) ?_
  replace h := bindS h
  obtain ⟨x9, hx9, h⟩ := h
  refine W.seqOps (RunR.stat 2 (by kernel_rfl) (RunR.cons (tab_cons (on := true) (fun _ => chart_Who_ok hx9) tab_nil) (Step.call (g := 31) (caps := []) (v := .tup [.pv (T_api_Customer.pv x9.1), .pv (.slice (List.map (eInt .i64) x9.2.1)), .pv (.int .i64 x9.2.2)]) (by kernel_rfl) (by kernel_rfl) (tab_hit (by kernel_rfl)) (by kernel_rfl)) (RunR.all (by kernel_rfl)))) ?_
  replace h := bindS h
  obtain ⟨x10, hx10, h⟩ := h
  refine W.seqOps (RunR.stat 1 (by kernel_rfl) (RunR.cons (tab_cons (on := true) (fun _ => chart_Side_ok hx10) tab_nil) (Step.call (g := 32) (caps := []) (v := .tup [.pv (.int .i64 x10.1), .pv (.int .i64 x10.2)]) (by kernel_rfl) (by kernel_rfl) (tab_hit (by kernel_rfl)) (by kernel_rfl)) (RunR.all (by kernel_rfl)))) ?_
  refine W.assoc ?_
  replace h := bindS h
  obtain ⟨c11, hc11, h⟩ := h
  refine W.seqOps (RunR.stat 2 (by kernel_rfl) (RunR.dyn (Step.name (f := eBool) (e := decide (kind5 < 0)) (c := c11) (by kernel_rfl) hc11) (RunR.puts 3 [(54, .pv (.bool (c11 || (decide (kind5 > 3))))), (53, (bif !c11 then (.pv (.bool (decide (kind5 > 3)))) else (.tup []))), (52, (bif !c11 then (.pv (.int .i64 kind5)) else (.tup [])))] (by cases c11 <;> kernel_rfl) ((.nil _))))) ?_
  replace h := bindS h
  obtain ⟨j12, hj12, h⟩ := h
  refine W.joinOut (j := j12) (o := r) (fun p σ => σ.tidy [] [(1, false), (2, false), (3, false), (5, false), (11, false), (12, false), (13, false), (14, false), (15, false), (16, false), (17, false)] [(.loc 5 0, false), (.loc 11 0, false), (.loc 15 0, false)] [] = ⟨[(1, .pv (.int .i64 a2)), (2, .pv (.int .i32 day3)), (3, .pv (.int .i64 id4)), (5, .ptr (.loc 5 0) 0), (11, .ptr (.loc 11 0) 0), (12, .pv (.int .i64 x7.2)), (13, .pv (.bool x8.1)), (14, .pv (.int .i64 x8.2)), (15, .ptr (.loc 15 0) 0), (16, .pv (.slice (List.map (eInt .i64) x9.2.1))), (17, .pv (.int .i64 x9.2.2))], [(.loc 5 0, .box [.pv (.slice (List.map T_api_Customer.pv x6.f_Customers)), .pv (.slice (List.map T_api_Record.pv x6.f_Records))]), (.loc 11 0, .box [.pv (.int .i64 x7.1.f_Acc), .pv (.int .i64 x7.1.f_Kind), .pv (.int .i64 x7.1.f_Cur), .pv (.int .i64 x7.1.f_Customer), .pv (.int .i64 x7.1.f_Product), .pv (.int .i64 x7.1.f_Partition), .pv (.int .i32 x7.1.f_From), .pv (.int .i32 x7.1.f_To)]), (.loc 15 0, .box [.pv (.int .i64 x9.1.f_ID), .pv (.str x9.1.f_Name), .pv (.int .i64 x9.1.f_Kind)])]⟩) ?_ (fun p σj12 hp hsj12 => ?_) (fun p hp => ?_)
  · replace h := hj12
    refine W.condI (t := (c11 || (decide (kind5 > 3)))) (by kernel_rfl) h (fun hc h' => ?_) (fun hc h' => ?_)
    · replace h := h'
      replace h := bindS h
      obtain ⟨c13, hc13, h⟩ := h
      refine W.seqOps (RunR.stat 2 (by kernel_rfl) (RunR.dyn (Step.name (f := eBool) (e := (x10.2 != 1)) (c := c13) (by kernel_rfl) hc13) (RunR.puts 3 [(60, .pv (.bool (c13 || (x10.1 != 0)))), (59, (bif !c13 then (.pv (.bool (x10.1 != 0))) else (.tup []))), (58, (bif !c13 then (.pv (.int .i64 x10.1)) else (.tup [])))] (by cases c13 <;> kernel_rfl) ((.nil _))))) ?_
      refine W.condI (t := (c13 || (x10.1 != 0))) (by kernel_rfl) h (fun hc h' => ?_) (fun hc h' => ?_)
      · replace h := h'
        refine W.seqOps (RunR.all (by kernel_rfl)) ?_
        cases h
        exact W.ret ((outw_out ret_ne (fun e => by subst e; exact (fin_ret (by kernel_rfl)))))
      · replace h := h'
        cases h
        exact W.skip ((outw_in (by (show _ = _); kernel_rfl)))
    · replace h := h'
      replace h := bindS h
      obtain ⟨c14, hc14, h⟩ := h
      refine W.seqOps (RunR.stat 2 (by kernel_rfl) (RunR.dyn (Step.name (f := eBool) (e := (x10.2 != 0)) (c := c14) (by kernel_rfl) hc14) (RunR.puts 9 [(72, .pv (.bool (c14 || (x10.1 != (IntKind.wrap .i64 (1 - (IntKind.wrap .i64 (2 * (Int.tmod (IntKind.wrap .i64 (Int.tdiv (IntKind.wrap .i64 (kind5 + 1)) 2)) 2))))))))), (71, (bif !c14 then (.pv (.bool (x10.1 != (IntKind.wrap .i64 (1 - (IntKind.wrap .i64 (2 * (Int.tmod (IntKind.wrap .i64 (Int.tdiv (IntKind.wrap .i64 (kind5 + 1)) 2)) 2)))))))) else (.tup []))), (70, (bif !c14 then (.pv (.int .i64 (IntKind.wrap .i64 (1 - (IntKind.wrap .i64 (2 * (Int.tmod (IntKind.wrap .i64 (Int.tdiv (IntKind.wrap .i64 (kind5 + 1)) 2)) 2))))))) else (.tup []))), (69, (bif !c14 then (.pv (.int .i64 (IntKind.wrap .i64 (2 * (Int.tmod (IntKind.wrap .i64 (Int.tdiv (IntKind.wrap .i64 (kind5 + 1)) 2)) 2))))) else (.tup []))), (68, (bif !c14 then (.pv (.int .i64 (Int.tmod (IntKind.wrap .i64 (Int.tdiv (IntKind.wrap .i64 (kind5 + 1)) 2)) 2))) else (.tup []))), (67, (bif !c14 then (.pv (.int .i64 (IntKind.wrap .i64 (Int.tdiv (IntKind.wrap .i64 (kind5 + 1)) 2)))) else (.tup []))), (66, (bif !c14 then (.pv (.int .i64 (IntKind.wrap .i64 (kind5 + 1)))) else (.tup []))), (65, (bif !c14 then (.pv (.int .i64 kind5)) else (.tup []))), (64, (bif !c14 then (.pv (.int .i64 x10.1)) else (.tup [])))] (by cases c14 <;> kernel_rfl) ((.nil _))))) ?_
      refine W.condI (t := (c14 || (x10.1 != (IntKind.wrap .i64 (1 - (IntKind.wrap .i64 (2 * (Int.tmod (IntKind.wrap .i64 (Int.tdiv (IntKind.wrap .i64 (kind5 + 1)) 2)) 2)))))))) (by kernel_rfl) h (fun hc h' => ?_) (fun hc h' => ?_)
      · replace h := h'
        refine W.seqOps (RunR.all (by kernel_rfl)) ?_
        cases h
        exact W.ret ((outw_out ret_ne (fun e => by subst e; exact (fin_ret (by kernel_rfl)))))
      · replace h := h'
        cases h
        exact W.skip ((outw_in (by (show _ = _); kernel_rfl)))
  · subst hp
    obtain ⟨⟩ := p
    refine W.assoc ?_
    refine W.seqKeep hsj12 ?_
    replace h := bindS h
    obtain ⟨x16, hx16, h⟩ := h
    refine W.seqOps (RunR.stat 1 (by kernel_rfl) (RunR.cons (tab_cons (on := true) (fun _ => cashbookref18_Right_ok hx16) tab_nil) (Step.call (g := 17) (caps := []) (v := .pv (.bool x16)) (by kernel_rfl) (by kernel_rfl) (tab_hit (by kernel_rfl)) (by kernel_rfl)) (RunR.all (by kernel_rfl)))) ?_
    refine W.seqCond (t := !x16) (by kernel_rfl) h (fun hc h' => ?_) (fun hc h' => ?_)
    · replace h := h'
      refine W.assoc ?_
      replace h := bindS h
      obtain ⟨x17, hx17, h⟩ := h
      replace h := bindS h
      obtain ⟨c18, hc18, h⟩ := h
      replace h := bindS h
      obtain ⟨c19, hc19, h⟩ := h
      replace h := bindS h
      obtain ⟨c20, hc20, h⟩ := h
      replace h := bindS h
      obtain ⟨c21, hc21, h⟩ := h
      replace h := bindS h
      obtain ⟨c22, hc22, h⟩ := h
      replace h := bindS h
      obtain ⟨c23, hc23, h⟩ := h
      refine W.seqOps (RunR.cons (tab_cons (on := true) (fun _ => cashbooklaw18_alive_ok hx17) tab_nil) (Step.call (g := 18) (caps := []) (v := .pv (.bool x17)) (by kernel_rfl) (by kernel_rfl) (tab_hit (by kernel_rfl)) (by kernel_rfl)) (RunR.stat 1 (by kernel_rfl) (RunR.puts 3 [(80, .pv (.bool (x17 && (x7.2 == 1)))), (79, (bif x17 then (.pv (.bool (x7.2 == 1))) else (.tup []))), (78, (bif x17 then (.pv (.int .i64 x7.2)) else (.tup [])))] (by cases x17 <;> kernel_rfl) (RunR.dyn (Step.name (f := eBool) (e := (x17 && (x7.2 == 1))) (c := c18) (by kernel_rfl) hc18) (RunR.puts 3 [(84, .pv (.bool (c18 && (x8.2 == 1)))), (83, (bif c18 then (.pv (.bool (x8.2 == 1))) else (.tup []))), (82, (bif c18 then (.pv (.int .i64 x8.2)) else (.tup [])))] (by cases c18 <;> kernel_rfl) (RunR.dyn (Step.name (f := eBool) (e := (c18 && (x8.2 == 1))) (c := c19) (by kernel_rfl) hc19) (RunR.puts 3 [(88, .pv (.bool (c19 && (x9.2.2 == 1)))), (87, (bif c19 then (.pv (.bool (x9.2.2 == 1))) else (.tup []))), (86, (bif c19 then (.pv (.int .i64 x9.2.2)) else (.tup [])))] (by cases c19 <;> kernel_rfl) (RunR.dyn (Step.name (f := eBool) (e := (c19 && (x9.2.2 == 1))) (c := c20) (by kernel_rfl) hc20) (RunR.puts 4 [(93, .pv (.bool (c20 && (T_api_Record.same x7.1 (⟨0, 0, 0, 0, 0, 0, 0, 0⟩ : T_api_Record))))), (92, (bif c20 then (.pv (.bool (T_api_Record.same x7.1 (⟨0, 0, 0, 0, 0, 0, 0, 0⟩ : T_api_Record)))) else (.tup []))), (91, (bif c20 then (.pv (.agg [.int .i64 0, .int .i64 0, .int .i64 0, .int .i64 0, .int .i64 0, .int .i64 0, .int .i32 0, .int .i32 0])) else (.tup []))), (90, (bif c20 then (.pv (T_api_Record.pv x7.1)) else (.tup [])))] (by cases c20 <;> kernel_rfl) (RunR.dyn (Step.name (f := eBool) (e := (c20 && (T_api_Record.same x7.1 (⟨0, 0, 0, 0, 0, 0, 0, 0⟩ : T_api_Record)))) (c := c21) (by kernel_rfl) hc21) (RunR.puts 3 [(97, .pv (.bool (c21 && (!x8.1)))), (96, (bif c21 then (.pv (.bool (!x8.1))) else (.tup []))), (95, (bif c21 then (.pv (.bool x8.1)) else (.tup [])))] (by cases c21 <;> kernel_rfl) (RunR.dyn (Step.name (f := eBool) (e := (c21 && (!x8.1))) (c := c22) (by kernel_rfl) hc22) (RunR.puts 4 [(102, .pv (.bool (c22 && (T_api_Customer.same x9.1 (⟨0, [], 0⟩ : T_api_Customer))))), (101, (bif c22 then (.pv (.bool (T_api_Customer.same x9.1 (⟨0, [], 0⟩ : T_api_Customer)))) else (.tup []))), (100, (bif c22 then (.pv (.agg [.int .i64 0, .str [], .int .i64 0])) else (.tup []))), (99, (bif c22 then (.pv (T_api_Customer.pv x9.1)) else (.tup [])))] (by cases c22 <;> kernel_rfl) (RunR.dyn (Step.name (f := eBool) (e := (c22 && (T_api_Customer.same x9.1 (⟨0, [], 0⟩ : T_api_Customer)))) (c := c23) (by kernel_rfl) hc23) (RunR.puts 1 [(104, (bif c23 then (.pv (.slice (List.map (eInt .i64) x9.2.1))) else (.tup [])))] (by cases c23 <;> kernel_rfl) (RunR.dyn (Step.gdG (c23) (by kernel_rfl) (by
            cases c23
            · exact .inl ⟨by kernel_rfl, by kernel_rfl⟩
            · exact .inr ⟨by kernel_rfl, by kernel_rfl, Step.lenT (f := (eInt .i64)) (l := x9.2.1) (by kernel_rfl)⟩)) (RunR.puts 2 [(107, .pv (.bool (c23 && ((x9.2.1.length : Int) == 0)))), (106, (bif c23 then (.pv (.bool ((x9.2.1.length : Int) == 0))) else (.tup [])))] (by cases c23 <;> kernel_rfl) (RunR.all (by kernel_rfl))))))))))))))))))) ?_
      cases h
      exact W.seqRet (fin_ret (by kernel_rfl))
    · replace h := h'
      refine W.seqSkip ?_
      refine W.assoc ?_
      replace h := bindS h
      obtain ⟨x24, hx24, h⟩ := h
      refine W.seqOps (RunR.stat 3 (by kernel_rfl) (RunR.cons (tab_cons (on := true) (fun _ => cashbookref18_PlaceOf_ok hx24) tab_nil) (Step.call (g := 21) (caps := []) (v := .pv (.int .i64 x24)) (by kernel_rfl) (by kernel_rfl) (tab_hit (by kernel_rfl)) (by kernel_rfl)) (RunR.all (by kernel_rfl)))) ?_
      refine W.assoc ?_
      refine W.seqOps (RunR.all (by kernel_rfl)) ?_
      replace h := bindS h
      obtain ⟨j25, hj25, h⟩ := h
      refine W.joinOut (j := j25) (o := r) (fun p σ => σ.tidy [] [(1, false), (2, false), (5, false), (11, false), (12, false), (13, false), (14, false)] [(.loc 5 0, false), (.loc 11 0, false)] [.loc 15 0] = ⟨[(1, .pv (.int .i64 a2)), (2, .pv (.int .i32 day3)), (5, .ptr (.loc 5 0) 0), (11, .ptr (.loc 11 0) 0), (12, .pv (.int .i64 x7.2)), (13, .pv (.bool x8.1)), (14, .pv (.int .i64 x8.2))], [(.loc 5 0, .box [.pv (.slice (List.map T_api_Customer.pv x6.f_Customers)), .pv (.slice (List.map T_api_Record.pv x6.f_Records))]), (.loc 11 0, .box [.pv (.int .i64 x7.1.f_Acc), .pv (.int .i64 x7.1.f_Kind), .pv (.int .i64 x7.1.f_Cur), .pv (.int .i64 x7.1.f_Customer), .pv (.int .i64 x7.1.f_Product), .pv (.int .i64 x7.1.f_Partition), .pv (.int .i32 x7.1.f_From), .pv (.int .i32 x7.1.f_To)])]⟩) ?_ (fun p σj25 hp hsj25 => ?_) (fun p hp => ?_)
      · replace h := hj25
        refine W.condI (t := decide (x24 < 0)) (by kernel_rfl) h (fun hc h' => ?_) (fun hc h' => ?_)
        · replace h := h'
          replace h := bindS h
          obtain ⟨c26, hc26, h⟩ := h
          replace h := bindS h
          obtain ⟨c27, hc27, h⟩ := h
          refine W.seqOps (RunR.stat 2 (by kernel_rfl) (RunR.dyn (Step.name (f := eBool) (e := (x9.2.2 != 8)) (c := c26) (by kernel_rfl) hc26) (RunR.puts 4 [(120, .pv (.bool (c26 || (!(T_api_Customer.same x9.1 (⟨0, [], 0⟩ : T_api_Customer)))))), (119, (bif !c26 then (.pv (.bool (!(T_api_Customer.same x9.1 (⟨0, [], 0⟩ : T_api_Customer))))) else (.tup []))), (118, (bif !c26 then (.pv (.agg [.int .i64 0, .str [], .int .i64 0])) else (.tup []))), (117, (bif !c26 then (.pv (T_api_Customer.pv x9.1)) else (.tup [])))] (by cases c26 <;> kernel_rfl) (RunR.dyn (Step.name (f := eBool) (e := (c26 || (!(T_api_Customer.same x9.1 (⟨0, [], 0⟩ : T_api_Customer))))) (c := c27) (by kernel_rfl) hc27) (RunR.puts 1 [(122, (bif !c27 then (.pv (.slice (List.map (eInt .i64) x9.2.1))) else (.tup [])))] (by cases c27 <;> kernel_rfl) (RunR.dyn (Step.gdG (!c27) (by kernel_rfl) (by
                cases c27
                · exact .inr ⟨by kernel_rfl, by kernel_rfl, Step.lenT (f := (eInt .i64)) (l := x9.2.1) (by kernel_rfl)⟩
                · exact .inl ⟨by kernel_rfl, by kernel_rfl⟩)) (RunR.puts 2 [(125, .pv (.bool (c27 || ((x9.2.1.length : Int) != 0)))), (124, (bif !c27 then (.pv (.bool ((x9.2.1.length : Int) != 0))) else (.tup [])))] (by cases c27 <;> kernel_rfl) ((.nil _))))))))) ?_
          refine W.condI (t := (c27 || ((x9.2.1.length : Int) != 0))) (by kernel_rfl) h (fun hc h' => ?_) (fun hc h' => ?_)
          · replace h := h'
            refine W.seqOps (RunR.all (by kernel_rfl)) ?_
            cases h
            exact W.ret ((outw_out ret_ne (fun e => by subst e; exact (fin_ret (by kernel_rfl)))))
          · replace h := h'
            cases h
            exact W.skip ((outw_in (by (show _ = _); kernel_rfl)))
        · replace h := h'
          replace h := bindS h
          obtain ⟨c28, hc28, h⟩ := h
          replace h := bindS h
          obtain ⟨x29, hx29, h⟩ := h
          replace h := bindS h
          obtain ⟨c30, hc30, h⟩ := h
          replace h := bindS h
          obtain ⟨x31, hx31, h⟩ := h
          replace h := bindS h
          obtain ⟨x32, hx32, h⟩ := h
          refine W.seqDraw (tab_cons (on := (!c30)) (fun hg => cashbookref18_Of_ok (gdO_at hg hx31)) (tab_cons (on := (!c30)) (fun hg => cashbookref18_Accounts_ok (gdO_at hg hx32)) tab_nil)) (Run.stat 2 (by kernel_rfl) (Run.dyn (Step.name (f := eBool) (e := (x9.2.2 != 0)) (c := c28) (by kernel_rfl) hc28) (Run.puts 4 [(132, (bif !c28 then (.pv (.int .i64 x24)) else (.tup []))), (131, (bif !c28 then (.pv (.slice (List.map T_api_Customer.pv x6.f_Customers))) else (.tup []))), (130, (bif !c28 then (.ptr (.loc 5 0) 0) else (.tup []))), (129, (bif !c28 then (.pv (T_api_Customer.pv x9.1)) else (.tup [])))] (by cases c28 <;> kernel_rfl) (Run.dyn (Step.gdG (!c28) (by kernel_rfl) (by
                cases c28
                · exact .inr ⟨by kernel_rfl, by kernel_rfl, Step.idxT (f := T_api_Customer.pv) (l := x6.f_Customers) (n := x24) (e := x29) (k := .i64) (by kernel_rfl) (by kernel_rfl) hx29 (by kernel_rfl)⟩
                · exact .inl ⟨by kernel_rfl, by kernel_rfl⟩)) (Run.puts 3 [(136, .pv (.bool (c28 || (!(T_api_Customer.same x9.1 x29))))), (135, (bif !c28 then (.pv (.bool (!(T_api_Customer.same x9.1 x29)))) else (.tup []))), (134, (bif !c28 then (.pv (T_api_Customer.pv x29)) else (.tup [])))] (by cases c28 <;> kernel_rfl) (Run.dyn (Step.name (f := eBool) (e := (c28 || (!(T_api_Customer.same x9.1 x29)))) (c := c30) (by kernel_rfl) hc30) (Run.puts 3 [(140, (bif !c30 then (.pv (.int .i64 id4)) else (.tup []))), (139, (bif !c30 then (.pv (T_api_Chart.pv x6)) else (.tup []))), (138, (bif !c30 then (.pv (.slice (List.map (eInt .i64) x9.2.1))) else (.tup [])))] (by cases c30 <;> kernel_rfl) (Run.dyn (Step.gdG (!c30) (by kernel_rfl) (by
                cases c30
                · exact .inr ⟨by kernel_rfl, by kernel_rfl, Step.call (g := 34) (caps := []) (v := .pv (.slice (List.map (eInt .i64) x31))) (by kernel_rfl) (by kernel_rfl) (tab_hit (by kernel_rfl)) (by kernel_rfl)⟩
                · exact .inl ⟨by kernel_rfl, by kernel_rfl⟩)) (Run.dyn (Step.gdG (!c30) (by kernel_rfl) (by
                cases c30
                · exact .inr ⟨by kernel_rfl, by kernel_rfl, Step.call (g := 33) (caps := []) (v := .pv (.bool x32)) (by kernel_rfl) (by kernel_rfl) (tab_next rfl (tab_hit (by kernel_rfl))) (by kernel_rfl)⟩
                · exact .inl ⟨by kernel_rfl, by kernel_rfl⟩)) (Run.puts 2 [(144, .pv (.bool (c30 || (!x32)))), (143, (bif !c30 then (.pv (.bool (!x32))) else (.tup [])))] (by cases c30 <;> kernel_rfl) ((Run.nil)))))))))))) ?_
          refine W.condI (t := (c30 || (!x32))) (by kernel_rfl) h (fun hc h' => ?_) (fun hc h' => ?_)
          · replace h := h'
            refine W.seqOps (RunR.all (by kernel_rfl)) ?_
            cases h
            exact W.ret ((outw_out ret_ne (fun e => by subst e; exact (fin_ret (by kernel_rfl)))))
          · replace h := h'
            cases h
            exact W.skip ((outw_in (by (show _ = _); kernel_rfl)))
      · subst hp
        obtain ⟨⟩ := p
        refine W.seqKeep hsj25 ?_
        replace h := bindS h
        obtain ⟨x34, hx34, h⟩ := h
        refine W.seqOps (RunR.stat 3 (by kernel_rfl) (RunR.cons (tab_cons (on := true) (fun _ => cashbookref18_Place_ok hx34) tab_nil) (Step.call (g := 25) (caps := []) (v := .pv (.int .i64 x34)) (by kernel_rfl) (by kernel_rfl) (tab_hit (by kernel_rfl)) (by kernel_rfl)) (RunR.all (by kernel_rfl)))) ?_
        refine W.assoc ?_
        refine W.seqOps (RunR.all (by kernel_rfl)) ?_
        refine W.seqCond (t := decide (x34 < 0)) (by kernel_rfl) h (fun hc h' => ?_) (fun hc h' => ?_)
        · replace h := h'
          refine W.assoc ?_
          replace h := bindS h
          obtain ⟨x35, hx35, h⟩ := h
          replace h := bindS h
          obtain ⟨c36, hc36, h⟩ := h
          replace h := bindS h
          obtain ⟨c37, hc37, h⟩ := h
          replace h := bindS h
          obtain ⟨c38, hc38, h⟩ := h
          refine W.seqOps (RunR.cons (tab_cons (on := true) (fun _ => cashbooklaw18_alive_ok hx35) tab_nil) (Step.call (g := 18) (caps := []) (v := .pv (.bool x35)) (by kernel_rfl) (by kernel_rfl) (tab_hit (by kernel_rfl)) (by kernel_rfl)) (RunR.stat 1 (by kernel_rfl) (RunR.puts 3 [(155, .pv (.bool (x35 && (x7.2 == 8)))), (154, (bif x35 then (.pv (.bool (x7.2 == 8))) else (.tup []))), (153, (bif x35 then (.pv (.int .i64 x7.2)) else (.tup [])))] (by cases x35 <;> kernel_rfl) (RunR.dyn (Step.name (f := eBool) (e := (x35 && (x7.2 == 8))) (c := c36) (by kernel_rfl) hc36) (RunR.puts 3 [(159, .pv (.bool (c36 && (x8.2 == 8)))), (158, (bif c36 then (.pv (.bool (x8.2 == 8))) else (.tup []))), (157, (bif c36 then (.pv (.int .i64 x8.2)) else (.tup [])))] (by cases c36 <;> kernel_rfl) (RunR.dyn (Step.name (f := eBool) (e := (c36 && (x8.2 == 8))) (c := c37) (by kernel_rfl) hc37) (RunR.puts 4 [(164, .pv (.bool (c37 && (T_api_Record.same x7.1 (⟨0, 0, 0, 0, 0, 0, 0, 0⟩ : T_api_Record))))), (163, (bif c37 then (.pv (.bool (T_api_Record.same x7.1 (⟨0, 0, 0, 0, 0, 0, 0, 0⟩ : T_api_Record)))) else (.tup []))), (162, (bif c37 then (.pv (.agg [.int .i64 0, .int .i64 0, .int .i64 0, .int .i64 0, .int .i64 0, .int .i64 0, .int .i32 0, .int .i32 0])) else (.tup []))), (161, (bif c37 then (.pv (T_api_Record.pv x7.1)) else (.tup [])))] (by cases c37 <;> kernel_rfl) (RunR.dyn (Step.name (f := eBool) (e := (c37 && (T_api_Record.same x7.1 (⟨0, 0, 0, 0, 0, 0, 0, 0⟩ : T_api_Record)))) (c := c38) (by kernel_rfl) hc38) (RunR.puts 3 [(168, .pv (.bool (c38 && (!x8.1)))), (167, (bif c38 then (.pv (.bool (!x8.1))) else (.tup []))), (166, (bif c38 then (.pv (.bool x8.1)) else (.tup [])))] (by cases c38 <;> kernel_rfl) (RunR.all (by kernel_rfl))))))))))) ?_
          cases h
          exact W.seqRet (fin_ret (by kernel_rfl))
        · replace h := h'
          refine W.seqSkip ?_
          refine W.assoc ?_
          replace h := bindS h
          obtain ⟨c39, hc39, h⟩ := h
          replace h := bindS h
          obtain ⟨x40, hx40, h⟩ := h
          replace h := bindS h
          obtain ⟨c41, hc41, h⟩ := h
          replace h := bindS h
          obtain ⟨x42, hx42, h⟩ := h
          refine W.seqDraw (tab_cons (on := (!c41)) (fun hg => cashbooklaw18_alive_ok (gdO_at hg hx42)) tab_nil) (Run.stat 2 (by kernel_rfl) (Run.dyn (Step.name (f := eBool) (e := (x7.2 != 0)) (c := c39) (by kernel_rfl) hc39) (Run.puts 4 [(175, (bif !c39 then (.pv (.int .i64 x34)) else (.tup []))), (174, (bif !c39 then (.pv (.slice (List.map T_api_Record.pv x6.f_Records))) else (.tup []))), (173, (bif !c39 then (.ptr (.loc 5 0) 1) else (.tup []))), (172, (bif !c39 then (.pv (T_api_Record.pv x7.1)) else (.tup [])))] (by cases c39 <;> kernel_rfl) (Run.dyn (Step.gdG (!c39) (by kernel_rfl) (by
                cases c39
                · exact .inr ⟨by kernel_rfl, by kernel_rfl, Step.idxT (f := T_api_Record.pv) (l := x6.f_Records) (n := x34) (e := x40) (k := .i64) (by kernel_rfl) (by kernel_rfl) hx40 (by kernel_rfl)⟩
                · exact .inl ⟨by kernel_rfl, by kernel_rfl⟩)) (Run.puts 3 [(179, .pv (.bool (c39 || (!(T_api_Record.same x7.1 x40))))), (178, (bif !c39 then (.pv (.bool (!(T_api_Record.same x7.1 x40)))) else (.tup []))), (177, (bif !c39 then (.pv (T_api_Record.pv x40)) else (.tup [])))] (by cases c39 <;> kernel_rfl) (Run.dyn (Step.name (f := eBool) (e := (c39 || (!(T_api_Record.same x7.1 x40)))) (c := c41) (by kernel_rfl) hc41) (Run.dyn (Step.gdG (!c41) (by kernel_rfl) (by
                cases c41
                · exact .inr ⟨by kernel_rfl, by kernel_rfl, Step.call (g := 18) (caps := []) (v := .pv (.bool x42)) (by kernel_rfl) (by kernel_rfl) (tab_hit (by kernel_rfl)) (by kernel_rfl)⟩
                · exact .inl ⟨by kernel_rfl, by kernel_rfl⟩)) (Run.puts 2 [(183, .pv (.bool (c41 || (!x42)))), (182, (bif !c41 then (.pv (.bool (!x42))) else (.tup [])))] (by cases c41 <;> kernel_rfl) ((Run.nil)))))))))) ?_
          refine W.seqCond (t := (c41 || (!x42))) (by kernel_rfl) h (fun hc h' => ?_) (fun hc h' => ?_)
          · replace h := h'
            refine W.assoc ?_
            refine W.seqOps (RunR.all (by kernel_rfl)) ?_
            cases h
            exact W.seqRet (fin_ret (by kernel_rfl))
          · replace h := h'
            refine W.seqSkip ?_
            refine W.assoc ?_
            replace h := bindS h
            obtain ⟨x43, hx43, h⟩ := h
            refine W.seqOps (RunR.stat 1 (by kernel_rfl) (RunR.cons (tab_cons (on := true) (fun _ => cashbookref04_Right_ok hx43) tab_nil) (Step.call (g := 27) (caps := []) (v := .pv (.bool x43)) (by kernel_rfl) (by kernel_rfl) (tab_hit (by kernel_rfl)) (by kernel_rfl)) (RunR.all (by kernel_rfl)))) ?_
            refine W.seqCond (t := !x43) (by kernel_rfl) h (fun hc h' => ?_) (fun hc h' => ?_)
            · replace h := h'
              refine W.assoc ?_
              replace h := bindS h
              obtain ⟨c44, hc44, h⟩ := h
              refine W.seqOps (RunR.stat 2 (by kernel_rfl) (RunR.dyn (Step.name (f := eBool) (e := (x8.2 == 11)) (c := c44) (by kernel_rfl) hc44) (RunR.puts 3 [(192, .pv (.bool (c44 && (!x8.1)))), (191, (bif c44 then (.pv (.bool (!x8.1))) else (.tup []))), (190, (bif c44 then (.pv (.bool x8.1)) else (.tup [])))] (by cases c44 <;> kernel_rfl) (RunR.all (by kernel_rfl))))) ?_
              cases h
              exact W.seqRet (fin_ret (by kernel_rfl))
            · replace h := h'
              refine W.seqSkip ?_
              replace h := bindS h
              obtain ⟨c45, hc45, h⟩ := h
              replace h := bindS h
              obtain ⟨c46, hc46, h⟩ := h
              refine W.seqOps (RunR.stat 2 (by kernel_rfl) (RunR.dyn (Step.name (f := eBool) (e := (x8.2 == 0)) (c := c45) (by kernel_rfl) hc45) (RunR.puts 5 [(200, (bif c45 then (.pv (.bool (decide (day3 ≥ x7.1.f_From)))) else (.tup []))), (199, (bif c45 then (.pv (.int .i32 x7.1.f_From)) else (.tup []))), (198, (bif c45 then (.ptr (.loc 11 0) 6) else (.tup []))), (197, (bif c45 then (.pv (.int .i32 day3)) else (.tup []))), (196, (bif c45 then (.pv (.bool x8.1)) else (.tup [])))] (by cases c45 <;> kernel_rfl) (RunR.dyn (Step.gdG (c45) (by kernel_rfl) (by
                    cases c45
                    · exact .inl ⟨by kernel_rfl, by kernel_rfl⟩
                    · exact .inr ⟨by kernel_rfl, by kernel_rfl, Step.name (f := eBool) (e := decide (day3 ≥ x7.1.f_From)) (c := c46) (by kernel_rfl) hc46⟩)) (RunR.puts 7 [(208, .pv (.bool (c45 && (x8.1 == (c46 && (decide (day3 ≤ x7.1.f_To))))))), (207, (bif c45 then (.pv (.bool (x8.1 == (c46 && (decide (day3 ≤ x7.1.f_To)))))) else (.tup []))), (206, (bif c45 then (.pv (.bool (c46 && (decide (day3 ≤ x7.1.f_To))))) else (.tup []))), (205, (bif (c45 && c46) then (.pv (.bool (decide (day3 ≤ x7.1.f_To)))) else (.tup []))), (204, (bif (c45 && c46) then (.pv (.int .i32 x7.1.f_To)) else (.tup []))), (203, (bif (c45 && c46) then (.ptr (.loc 11 0) 7) else (.tup []))), (202, (bif (c45 && c46) then (.pv (.int .i32 day3)) else (.tup [])))] (by cases c45 <;> cases c46 <;> kernel_rfl) (RunR.all (by kernel_rfl))))))) ?_
              cases h
              exact W.ret ((fin_ret (by kernel_rfl)))
      · subst hp
        exact Option.some.inj h
  · subst hp
    exact Option.some.inj h
end Go.Av.G
