import Derived.Test.YtkcilagjhieapaaGreatDoorC16
section
set_option linter.unusedVariables false
set_option linter.unusedSimpArgs false
set_option maxRecDepth 100000
set_option maxHeartbeats 8000000
namespace Go.Av.G
open Go Go.Av Go.Proofs
def Q1r0 : List GOp := [k0 6 0, b0 7 false]
def Q1r1 : List GOp := [m0 12 0, e0 13 12, m0 8 13]
def Q1r2 : List GOp := [m0 14 8, k0 9 0, m0 10 14]
def Q1r3 : List GOp := [m0 15 9, m0 16 10, p0 17 .lss 15 16]
def Q1r4 : List GOp := [m0 18 9, m0 19 10, p0 20 .add 18 19, o0 21 (.conv .u64 (.tmp 20)), o0 22 (.bin false .shr (.tmp 21) (.cst (.int .u64 1))), o0 23 (.conv .i64 (.tmp 22)), m0 11 23]
def Q1r5 : List GOp := [m0 24 2, m0 25 0, m0 26 11, i0 27 8 25 26, t0 28 8 27, m0 29 1, o0 30 (.call 0 2 (.tmp 24) [(.tmp 28), (.tmp 29)] [] [.ext 0]), q0 31 .lss 30 0]
def Q1r6 : List GOp := [m0 32 11, q0 33 .add 32 1, m0 9 33]
def Q1r7 : List GOp := [m0 34 11, m0 10 34]
def Q1l8 : AC := (.keep [] [(0, false), (1, false), (2, false), (8, false), (9, false), (10, false)] [(.ext 0, false)] [] [] (.seq (.seq (.ops Q1r3) (.cond (.tmp 17) .skip (.exit 0))) (.pass 1 (.seq (.ops Q1r4) (.seq (.ops Q1r5) (.cond (.tmp 31) (.ops Q1r6) (.ops Q1r7)))))))
def Q1r9 : List GOp := [m0 35 9, m0 36 9, m0 37 8, p0 38 .lss 36 37, m0 39 38, g0 40 39 true (.mov (.tmp 2)), g0 41 39 true (.mov (.tmp 0)), g0 42 39 true (.mov (.tmp 9)), g0 43 39 true (.idx 8 (.tmp 41) (.tmp 42)), g0 44 39 true (.load true 8 (.tmp 43)), g0 45 39 true (.mov (.tmp 1)), g0 46 39 true (.call 0 2 (.tmp 40) [(.tmp 44), (.tmp 45)] [] [.ext 0]), g0 47 39 true (.bin false .eql (.tmp 46) (.cst (.int .i64 0))), o0 48 (.pick (.tmp 39) (.tmp 47) (.cst (.bool false))), m0 6 35, m0 7 48]
def Q1b : AC := (.seq (.ops Q1r0) (.seq (.ops Q1r1) (.seq (.ops Q1r2) (.seq (.block 0 (.loop [0, 1, 2, 8, 9, 10] [] Q1l8)) (.seq (.keep [] [(0, false), (1, false), (2, false), (8, false), (9, false)] [(.ext 0, false)] [] [] (.ops Q1r9)) (.keep [] [(6, false), (7, false)] [(.ext 0, false)] [] [] .ret))))))
def Q1 : Fd := ⟨3, [.tmp 6, .tmp 7], [], Q1b⟩
theorem Q1_ag : agreeF Tryz.prog Tryz.f135 Q1 = true := by kernel_rfl
theorem slices_BinarySearchFunc_Record_Record_Account_ok {x1 : List T_api_Record} {target2 : Int} {r : Int × Bool} (h : slices_BinarySearchFunc_Record_Record_Account x1 target2 = some r) : Contract Tryz.prog 135 [Vl T_api_Record.pv x1, Vi target2, .fn 136 [.ptr (.ext 0) 0]] [.box [.pv (.fn 75)]] ⟨.tup [Vi r.1, Vb r.2], [], [(some (.box [.pv (.fn 75)]))]⟩ := by
 refine contract_fin hm Tryz.func135 Q1_ag (by kernel_rfl) ?_
 unfold slices_BinarySearchFunc_Record_Record_Account at h
 refine W.seqOps Aw ?_
 refine W.seqOps (Bw 1 (RunR.dyn (Lw T_api_Record.pv x1) Aw)) ?_
 refine W.seqOps Aw ?_
 obtain ⟨j3, hj3, h⟩ := bindS h
 refine W.join (j := j3) (fun p σ => σ.tidy [] [(0, false), (1, false), (2, false), (8, false), (9, false)] [(.ext 0, false)] [] [] = ⟨[(0, Vl T_api_Record.pv x1), (1, Vi target2), (2, .fn 136 [.ptr (.ext 0) 0]), (8, Vi (x1.length : Int)), (9, Vi p)], [(.ext 0, .box [.pv (.fn 75)])]⟩) ?_ (fun σj3 hsj3 => ?_)
 ·refine W.blockLoop (fun q σ => ((σ.forget [0, 1, 2, 8, 9, 10]).killAll []).tidy [] [(0, false), (1, false), (2, false), (8, false), (9, false), (10, false)] [(.ext 0, false)] [] [] = ⟨[(0, Vl T_api_Record.pv x1), (1, Vi target2), (2, .fn 136 [.ptr (.ext 0) 0]), (8, Vi (x1.length : Int)), (9, Vi q.1), (10, Vi q.2)], [(.ext 0, .box [.pv (.fn 75)])]⟩) hj3 ?_ ?_
  ·show _ = _
   kernel_rfl
  ·intro q σj3 oj3 hJj3 h
   obtain ⟨i4, j5⟩ := q
   refine W.keep hJj3 ?_
   refine W.assoc ?_
   refine W.seqOps Aw ?_
   refine W.seqCond (t := decide (i4 < j5)) (by kernel_rfl) h (fun hc h' => ?_) (fun hc h' => ?_)
   ·replace h := h'
    refine W.seqSkip ?_
    refine W.pass ?_
    refine W.seqOps Aw ?_
    obtain ⟨x6, hx6, h⟩ := bindS h
    obtain ⟨x7, hx7, h⟩ := bindS h
    refine W.seqOps (Bw 3 (RunR.dyn (Iw T_api_Record.pv x1 (IntKind.wrap .i64 (Int.fdiv (IntKind.wrap .u64 (IntKind.wrap .i64 (i4 + j5))) 2)) x6 hx6) (Bw 2 (RunR.cons (Tw (chart_place_Record_Account_1_ok hx7) tab_nil) (Step.callG (g := 136) (caps := [.ptr (.ext 0) 0]) (v := Vi x7) (ins := []) rfl (by kernel_rfl) (by kernel_rfl) (by kernel_rfl) Hw (by kernel_rfl) (by kernel_rfl)) Aw)))) ?_
    refine W.condI (t := decide (x7 < 0)) (by kernel_rfl) h (fun hc h' => ?_) (fun hc h' => ?_)
    ·replace h := h'
     refine W.ops Aw ?_
     cases h
     exact Ow
    ·replace h := h'
     refine W.ops Aw ?_
     cases h
     exact Ow
   ·replace h := h'
    cases h
    exact W.seqExit ((outw_out exit_ne (bnorm_x (by (show _ = _); kernel_rfl))))
 ·refine W.seqKeep hsj3 ?_
  obtain ⟨c9, hc9, h⟩ := bindS h
  obtain ⟨x10, hx10, h⟩ := bindS h
  obtain ⟨x11, hx11, h⟩ := bindS h
  refine W.seqOps (Bw 4 (RunR.dyn (Nw (decide (j3 < (x1.length : Int))) c9 hc9) (RunR.puts 3 [(42, (Bf c9 (Vi j3))), (41, (Bf c9 (Vl T_api_Record.pv x1))), (40, (Bf c9 (.fn 136 [.ptr (.ext 0) 0])))] (by cases c9 <;> kernel_rfl) (RunR.dyn (Step.gdG c9 (by kernel_rfl) (by
     cases c9
     ·exact .inl ⟨by kernel_rfl, by kernel_rfl⟩
     ·exact .inr ⟨by kernel_rfl, by kernel_rfl, Iw T_api_Record.pv x1 j3 x10 hx10⟩)) (RunR.puts 2 [(45, (Bf c9 (Vi target2))), (44, (Bf c9 (.pv (T_api_Record.pv x10))))] (by cases c9 <;> kernel_rfl) (RunR.cons (tab_cons (on := c9) (fun hg => chart_place_Record_Account_1_ok (gdO_at hg hx11)) tab_nil) (Step.gdB c9 (by kernel_rfl) (by
     cases c9
     ·exact .inl ⟨by kernel_rfl, by kernel_rfl⟩
     ·exact .inr ⟨by kernel_rfl, by kernel_rfl, Step.callBs (g := 136) (caps := [.ptr (.ext 0) 0]) (v := Vi x11) rfl (by kernel_rfl) (by kernel_rfl) (by kernel_rfl) Hw (by kernel_rfl) (by kernel_rfl)⟩)) (RunR.puts 2 [(48, Vb (c9 && (x11 == 0))), (47, (Bf c9 (Vb (x11 == 0))))] (by cases c9 <;> kernel_rfl) Aw))))))) ?_
  refine W.keep rfl ?_
  cases h
  exact W.ret Fw
def Q20r0 : List GOp := [o0 5 (.box (.tmp 2)), k0 6 0, b0 7 false]
def Q20r1 : List GOp := [m0 8 0, m0 9 1, o0 10 (.mkfn 136 [(.tmp 5)]), o0 11 (.call 0 2 (.cst (.fn 135)) [(.tmp 8), (.tmp 9), (.tmp 10)] [] [.loc 5 0]), o0 12 (.ext 0 (.tmp 11)), o0 13 (.ext 1 (.tmp 11)), m0 6 12, m0 7 13]
def Q20b : AC := (.seq (.ops Q20r0) (.seq (.ops Q20r1) (.keep [] [(6, false), (7, false)] [] [.loc 5 0] [] .ret)))
def Q20 : Fd := ⟨3, [.tmp 6, .tmp 7], [], Q20b⟩
theorem Q20_ag : agreeF Tryz.prog Tryz.f106 Q20 = true := by kernel_rfl
theorem chart_place_Record_Account_ok {l1 : List T_api_Record} {n2 : Int} {r : Int × Bool} (h : chart_place_Record_Account l1 n2 = some r) : Contract Tryz.prog 106 [Vl T_api_Record.pv l1, Vi n2, .pv (.fn 75)] [] ⟨.tup [Vi r.1, Vb r.2], [], []⟩ := by
 refine contract_fin hm Tryz.func106 Q20_ag (by kernel_rfl) ?_
 unfold chart_place_Record_Account at h
 refine W.seqOps Aw ?_
 obtain ⟨x3, hx3, h⟩ := bindS h
 refine W.seqOps (Bw 3 (RunR.cons (Tw (slices_BinarySearchFunc_Record_Record_Account_ok hx3) tab_nil) (Step.callG (g := 135) (caps := []) (v := .tup [Vi x3.1, Vb x3.2]) (ins := []) rfl (by kernel_rfl) (by kernel_rfl) (by kernel_rfl) Hw (by kernel_rfl) (by kernel_rfl)) Aw)) ?_
 refine W.keep rfl ?_
 cases h
 exact W.ret Fw
def Q71r0 : List GOp := [o0 2 (.box (.tmp 0)), o0 4 (.alloc [.pv (.int .i64 0), .pv (.int .i64 0), .pv (.int .i64 0), .pv (.int .i64 0), .pv (.int .i64 0), .pv (.int .i64 0), .pv (.int .i32 0), .pv (.int .i32 0)]), k0 5 0]
def Q71r1 : List GOp := [t0 8 2 2, o0 9 (.call 0 0 (.cst (.fn 34)) [(.tmp 8)] [] []), o0 10 (.un .not (.tmp 9))]
def Q71r2 : List GOp := [o0 11 (.build [.pv (.int .i64 0), .pv (.int .i64 0), .pv (.int .i64 0), .pv (.int .i64 0), .pv (.int .i64 0), .pv (.int .i64 0), .pv (.int .i32 0), .pv (.int .i32 0)] []), s0 8 4 11, k0 5 1]
def Q71r3 : List GOp := [f0 13 1 2, l0 14 1 13, m0 15 1, o0 16 (.call 0 0 (.cst (.fn 106)) [(.tmp 14), (.tmp 15), (.cst (.fn 75))] [] []), m0 12 16, o0 17 (.ext 0 (.tmp 12)), o0 18 (.ext 1 (.tmp 12)), m0 6 17, m0 7 18]
def Q71r4 : List GOp := [m0 19 7, o0 20 (.un .not (.tmp 19))]
def Q71r5 : List GOp := [o0 21 (.build [.pv (.int .i64 0), .pv (.int .i64 0), .pv (.int .i64 0), .pv (.int .i64 0), .pv (.int .i64 0), .pv (.int .i64 0), .pv (.int .i32 0), .pv (.int .i32 0)] []), s0 8 4 21, k0 5 8]
def Q71r6 : List GOp := [f0 22 1 2, l0 23 1 22, m0 24 6, i0 25 8 23 24, t0 26 8 25, s0 8 4 26, k0 5 0]
def Q71b : AC := (.seq (.ops Q71r0) (.seq (.seq (.ops Q71r1) (.cond (.tmp 10) (.seq (.ops Q71r2) (.keep [] [(4, false), (5, false)] [(.loc 4 0, false)] [.loc 2 0] [] .ret)) .skip)) (.seq (.ops Q71r3) (.seq (.seq (.ops Q71r4) (.cond (.tmp 20) (.seq (.ops Q71r5) (.keep [] [(4, false), (5, false)] [(.loc 4 0, false)] [.loc 2 0] [] .ret)) .skip)) (.seq (.ops Q71r6) (.keep [] [(4, false), (5, false)] [(.loc 4 0, false)] [.loc 2 0] [] .ret))))))
def Q71 : Fd := ⟨2, [.cell 4 true 8, .tmp 5], [], Q71b⟩
theorem Q71_ag : agreeF Tryz.prog Tryz.f64 Q71 = true := by kernel_rfl
theorem chart_Find_ok {c1 : T_api_Chart} {a2 : Int} {r : T_api_Record × Int} (h : chart_Find c1 a2 = some r) : Contract Tryz.prog 64 [.pv (T_api_Chart.pv c1), Vi a2] [] ⟨.tup [.pv (T_api_Record.pv r.1), Vi r.2], [], []⟩ := by
 refine contract_fin hm Tryz.func64 Q71_ag (by kernel_rfl) ?_
 unfold chart_Find at h
 refine W.seqOps Aw ?_
 refine W.assoc ?_
 obtain ⟨x3, hx3, h⟩ := bindS h
 refine W.seqOps (Bw 1 (RunR.cons (Tw (chart_Right_ok hx3) tab_nil) (Kw 34 [] (Vb x3) Hw) Aw)) ?_
 refine W.seqCond (t := !x3) (by kernel_rfl) h (fun hc h' => ?_) (fun hc h' => ?_)
 ·replace h := h'
  refine W.assoc ?_
  refine W.seqOps Aw ?_
  refine W.seqKeep rfl ?_
  cases h
  exact W.seqRet Fw
 ·replace h := h'
  refine W.seqSkip ?_
  obtain ⟨x4, hx4, h⟩ := bindS h
  refine W.seqOps (Bw 3 (RunR.cons (Tw (chart_place_Record_Account_ok hx4) tab_nil) (Kw 106 [] (.tup [Vi x4.1, Vb x4.2]) Hw) Aw)) ?_
  refine W.assoc ?_
  refine W.seqOps Aw ?_
  refine W.seqCond (t := !x4.2) (by kernel_rfl) h (fun hc h' => ?_) (fun hc h' => ?_)
  ·replace h := h'
   refine W.assoc ?_
   refine W.seqOps Aw ?_
   refine W.seqKeep rfl ?_
   cases h
   exact W.seqRet Fw
  ·replace h := h'
   refine W.seqSkip ?_
   obtain ⟨x5, hx5, h⟩ := bindS h
   refine W.seqOps (Bw 3 (RunR.dyn (Iw T_api_Record.pv c1.f_Records x4.1 x5 hx5) Aw)) ?_
   refine W.keep rfl ?_
   cases h
   exact W.ret Fw
def Q61r0 : List GOp := [o0 2 (.mov (.cst .nilI))]
def Q61r1 : List GOp := [m0 3 0, q0 4 .eql 3 0]
def Q61r2 : List GOp := [o0 2 (.mov (.cst .nilI))]
def Q61r3 : List GOp := [m0 5 0, o0 6 (.build [.pv (.int .i64 0)] [(0, 1, (.tmp 5))]), o0 7 (.mkI 113 (.tmp 6)), m0 2 7]
def Q61b : AC := (.seq (.ops Q61r0) (.seq (.seq (.ops Q61r1) (.cond (.tmp 4) (.seq (.ops Q61r2) (.keep [] [(2, false)] [] [] [] .ret)) .skip)) (.seq (.ops Q61r3) (.keep [] [(2, false)] [] [] [] .ret))))
def Q61 : Fd := ⟨1, [.tmp 2], [], Q61b⟩
theorem Q61_ag : agreeF Tryz.prog Tryz.f65 Q61 = true := by kernel_rfl
theorem avail_check_ok {e1 : Int} {r : Option Int} (h : avail_check e1 = some r) : Contract Tryz.prog 65 [Vi e1] [] ⟨.pv (eErr 113 r), [], []⟩ := by
 refine contract_fin hm Tryz.func65 Q61_ag (by kernel_rfl) ?_
 unfold avail_check at h
 refine W.seqOps Aw ?_
 refine W.assoc ?_
 refine W.seqOps Aw ?_
 refine W.seqCond (t := (e1 == 0)) (by kernel_rfl) h (fun hc h' => ?_) (fun hc h' => ?_)
 ·replace h := h'
  refine W.assoc ?_
  refine W.seqOps Aw ?_
  refine W.seqKeep rfl ?_
  cases h
  exact W.seqRet Fw
 ·replace h := h'
  refine W.seqSkip ?_
  refine W.seqOps Aw ?_
  refine W.keep rfl ?_
  cases h
  exact W.ret Fw
def Q45r0 : List GOp := [b0 6 false]
def Q45r1 : List GOp := [m0 7 0, m0 8 1, p0 9 .geq 7 8, m0 10 9, g0 11 10 true (.mov (.tmp 0)), g0 12 10 true (.mov (.tmp 2)), g0 13 10 true (.bin false .leq (.tmp 11) (.tmp 12)), o0 14 (.pick (.tmp 10) (.tmp 13) (.cst (.bool false))), m0 6 14]
def Q45b : AC := (.seq (.ops Q45r0) (.seq (.ops Q45r1) (.keep [] [(6, false)] [] [] [] .ret)))
def Q45 : Fd := ⟨3, [.tmp 6], [], Q45b⟩
theorem Q45_ag : agreeF Tryz.prog Tryz.f108 Q45 = true := by kernel_rfl
theorem chart_in_Date_ok {n1 : Int} {low2 : Int} {high3 : Int} {r : Bool} (h : chart_in_Date n1 low2 high3 = some r) : Contract Tryz.prog 108 [.pv (.int .i32 n1), .pv (.int .i32 low2), .pv (.int .i32 high3)] [] ⟨Vb r, [], []⟩ := by
 refine contract_fin hm Tryz.func108 Q45_ag (by kernel_rfl) ?_
 unfold chart_in_Date at h
 refine W.seqOps Aw ?_
 obtain ⟨c4, hc4, h⟩ := bindS h
 refine W.seqOps (Bw 3 (RunR.dyn (Nw (decide (n1 ≥ low2)) c4 hc4) (RunR.puts 4 [(14, Vb (c4 && (decide (n1 ≤ high3)))), (13, (Bf c4 (Vb (decide (n1 ≤ high3))))), (12, (Bf c4 (.pv (.int .i32 high3)))), (11, (Bf c4 (.pv (.int .i32 n1))))] (by cases c4 <;> kernel_rfl) Aw))) ?_
 refine W.keep rfl ?_
 cases h
 exact W.ret Fw
def Q82r0 : List GOp := [o0 3 (.box (.tmp 0)), b0 6 false, k0 7 0]
def Q82r1 : List GOp := [t0 11 2 3, m0 12 1, o0 13 (.call 0 0 (.cst (.fn 64)) [(.tmp 11), (.tmp 12)] [] []), m0 10 13, o0 14 (.ext 0 (.tmp 10)), o0 15 (.ext 1 (.tmp 10)), o0 8 (.alloc [.pv (.int .i64 0), .pv (.int .i64 0), .pv (.int .i64 0), .pv (.int .i64 0), .pv (.int .i64 0), .pv (.int .i64 0), .pv (.int .i32 0), .pv (.int .i32 0)]), s0 8 8 14, m0 9 15]
def Q82r2 : List GOp := [m0 17 9, q0 18 .neq 17 0, m0 16 18]
def Q82r3 : List GOp := [m0 19 9, b0 6 false, m0 7 19]
def Q82r4 : List GOp := [m0 21 2, o0 22 (.call 0 0 (.cst (.fn 107)) [(.tmp 21)] [] []), o0 23 (.un .not (.tmp 22)), m0 20 23]
def Q82r5 : List GOp := [b0 6 false, k0 7 11]
def Q82r6 : List GOp := [m0 24 2, f0 25 6 8, l0 26 1 25, f0 27 7 8, l0 28 1 27, o0 29 (.call 0 0 (.cst (.fn 108)) [(.tmp 24), (.tmp 26), (.tmp 28)] [] []), m0 6 29, k0 7 0]
def Q82b : AC := (.seq (.ops Q82r0) (.seq (.ops Q82r1) (.seq (.pass 0 (.seq (.ops Q82r2) (.cond (.tmp 16) (.seq (.ops Q82r3) (.keep [] [(6, false), (7, false)] [] [.loc 3 0, .loc 8 0] [] .ret)) (.seq (.ops Q82r4) (.cond (.tmp 20) (.seq (.ops Q82r5) (.keep [] [(6, false), (7, false)] [] [.loc 3 0, .loc 8 0] [] .ret)) .skip))))) (.seq (.ops Q82r6) (.keep [] [(6, false), (7, false)] [] [.loc 3 0, .loc 8 0] [] .ret)))))
def Q82 : Fd := ⟨3, [.tmp 6, .tmp 7], [], Q82b⟩
theorem Q82_ag : agreeF Tryz.prog Tryz.f66 Q82 = true := by kernel_rfl
theorem chart_Is_ok {c1 : T_api_Chart} {a2 : Int} {day3 : Int} {r : Bool × Int} (h : chart_Is c1 a2 day3 = some r) : Contract Tryz.prog 66 [.pv (T_api_Chart.pv c1), Vi a2, .pv (.int .i32 day3)] [] ⟨.tup [Vb r.1, Vi r.2], [], []⟩ := by
 refine contract_fin hm Tryz.func66 Q82_ag (by kernel_rfl) ?_
 unfold chart_Is at h
 refine W.seqOps Aw ?_
 obtain ⟨x4, hx4, h⟩ := bindS h
 refine W.seqOps (Bw 2 (RunR.cons (Tw (chart_Find_ok hx4) tab_nil) (Kw 64 [] (.tup [.pv (T_api_Record.pv x4.1), Vi x4.2]) Hw) Aw)) ?_
 refine W.seqPass ?_
 refine W.assoc ?_
 refine W.seqOps Aw ?_
 refine W.seqCond (t := (x4.2 != 0)) (by kernel_rfl) h (fun hc h' => ?_) (fun hc h' => ?_)
 ·replace h := h'
  refine W.assoc ?_
  refine W.seqOps Aw ?_
  refine W.seqKeep rfl ?_
  cases h
  exact W.seqRet Fw
 ·replace h := h'
  refine W.assoc ?_
  obtain ⟨x5, hx5, h⟩ := bindS h
  refine W.seqOps (Bw 1 (RunR.cons (Tw (date_Right_ok hx5) tab_nil) (Kw 107 [] (Vb x5) Hw) Aw)) ?_
  refine W.seqCond (t := !x5) (by kernel_rfl) h (fun hc h' => ?_) (fun hc h' => ?_)
  ·replace h := h'
   refine W.assoc ?_
   refine W.seqOps Aw ?_
   refine W.seqKeep rfl ?_
   cases h
   exact W.seqRet Fw
  ·replace h := h'
   refine W.seqSkip ?_
   obtain ⟨x6, hx6, h⟩ := bindS h
   refine W.seqOps (Bw 5 (RunR.cons (Tw (chart_in_Date_ok hx6) tab_nil) (Kw 108 [] (Vb x6) Hw) Aw)) ?_
   refine W.keep rfl ?_
   cases h
   exact W.ret Fw
def Q46r0 : List GOp := [b0 2 false]
def Q46r1 : List GOp := [m0 3 0, o0 4 (.call 0 0 (.cst (.fn 107)) [(.tmp 3)] [] []), o0 5 (.un .not (.tmp 4)), m0 2 5]
def Q46b : AC := (.seq (.ops Q46r0) (.seq (.ops Q46r1) (.keep [] [(2, false)] [] [] [] .ret)))
def Q46 : Fd := ⟨1, [.tmp 2], [], Q46b⟩
theorem Q46_ag : agreeF Tryz.prog Tryz.f138 Q46 = true := by kernel_rfl
theorem balance_may_1_ok {d1 : Int} {r : Bool} (h : balance_may_1 d1 = some r) : Contract Tryz.prog 138 [.pv (.int .i32 d1)] [] ⟨Vb r, [], []⟩ := by
 refine contract_fin hm Tryz.func138 Q46_ag (by kernel_rfl) ?_
 unfold balance_may_1 at h
 refine W.seqOps Aw ?_
 obtain ⟨x2, hx2, h⟩ := bindS h
 refine W.seqOps (Bw 1 (RunR.cons (Tw (date_Right_ok hx2) tab_nil) (Kw 107 [] (Vb x2) Hw) Aw)) ?_
 refine W.keep rfl ?_
 cases h
 exact W.ret Fw
def Q21r0 : List GOp := [k0 4 0]
def Q21r1 : List GOp := [m0 6 0, e0 7 6, k0 8 0]
def Q21r2 : List GOp := [p0 9 .lss 8 7]
def Q21r3 : List GOp := [m0 10 8, m0 5 10]
def Q21r4 : List GOp := [m0 11 1, m0 12 0, m0 13 5, i0 14 1 12 13, l0 15 1 14, o0 16 (.call 0 0 (.tmp 11) [(.tmp 15)] [] [])]
def Q21r5 : List GOp := [m0 17 5, m0 4 17]
def Q21r6 : List GOp := [q0 18 .add 8 1, m0 8 18]
def Q21l7 : AC := (.keep [] [(0, false), (1, false), (7, false), (8, false)] [] [] [] (.seq (.ops Q21r2) (.seq (.cond (.tmp 9) .skip (.exit 0)) (.seq (.pass 1 (.seq (.ops Q21r3) (.seq (.ops Q21r4) (.cond (.tmp 16) (.seq (.ops Q21r5) (.keep [] [(4, false)] [] [] [] .ret)) .skip)))) (.ops Q21r6)))))
def Q21r8 : List GOp := [k0 4 (-1)]
def Q21b : AC := (.seq (.ops Q21r0) (.seq (.seq (.ops Q21r1) (.block 0 (.loop [0, 1, 7, 8] [] Q21l7))) (.seq (.keep [] [] [] [] [] (.ops Q21r8)) (.keep [] [(4, false)] [] [] [] .ret))))
def Q21 : Fd := ⟨2, [.tmp 4], [], Q21b⟩
theorem Q21_ag : agreeF Tryz.prog Tryz.f149 Q21 = true := by kernel_rfl
theorem slices_IndexFunc_Date_Date_ok {s1 : List Int} {r : Int} (h : slices_IndexFunc_Date_Date s1 = some r) : Contract Tryz.prog 149 [Vl (eInt .i32) s1, .pv (.fn 138)] [] ⟨Vi r, [], []⟩ := by
 refine contract_fin hm Tryz.func149 Q21_ag (by kernel_rfl) ?_
 unfold slices_IndexFunc_Date_Date at h
 refine W.seqOps Aw ?_
 refine W.assoc ?_
 refine W.seqOps (Bw 1 (RunR.dyn (Lw (eInt .i32) s1) Aw)) ?_
 obtain ⟨j2, hj2, h⟩ := bindS h
 refine W.joinOut (j := j2) (o := r) (fun p σ => σ.tidy [] [] [] [] [] = ⟨[], []⟩) ?_ (fun p σj2 hp hsj2 => ?_) (fun p hp => ?_)
 ·refine W.blockLoopO (fun q σ => ((σ.forget [0, 1, 7, 8]).killAll []).tidy [] [(0, false), (1, false), (7, false), (8, false)] [] [] [] = ⟨[(0, Vl (eInt .i32) s1), (1, .pv (.fn 138)), (7, Vi (s1.length : Int)), (8, Vi q)], []⟩) hj2 ?_ ?_
  ·show _ = _
   kernel_rfl
  ·intro x3 σj2 oj2 hJj2 h
   refine W.keep hJj2 ?_
   refine W.seqOps Aw ?_
   refine W.seqCond (t := decide (x3 < (s1.length : Int))) (by kernel_rfl) h (fun hc h' => ?_) (fun hc h' => ?_)
   ·replace h := h'
    refine W.seqSkip ?_
    refine W.seqPass ?_
    refine W.assoc ?_
    refine W.seqOps Aw ?_
    refine W.assoc ?_
    obtain ⟨x4, hx4, h⟩ := bindS h
    obtain ⟨x5, hx5, h⟩ := bindS h
    refine W.seqOps (Bw 3 (RunR.dyn (Iw (eInt .i32) s1 x3 x4 hx4) (Bw 1 (RunR.cons (Tw (balance_may_1_ok hx5) tab_nil) (Kw 138 [] (Vb x5) Hw) ((.nil _)))))) ?_
    refine W.seqCond (t := x5) (by kernel_rfl) h (fun hc h' => ?_) (fun hc h' => ?_)
    ·replace h := h'
     refine W.assoc ?_
     refine W.seqOps Aw ?_
     refine W.seqKeep rfl ?_
     cases h
     exact W.seqRet ((outw_out ret_ne (bout_o ret_ne ret_ne' (fun e => by subst e; exact Fw))))
    ·replace h := h'
     refine W.seqSkip ?_
     refine W.ops Aw ?_
     cases h
     exact Ow
   ·replace h := h'
    cases h
    exact W.seqExit ((outw_out exit_ne (bout_x (by (show _ = _); kernel_rfl))))
 ·subst hp
  obtain ⟨⟩ := p
  refine W.seqKeep hsj2 ?_
  refine W.seqOps Aw ?_
  refine W.keep rfl ?_
  cases h
  exact W.ret Fw
 ·subst hp
  exact Option.some.inj h
def Q11r0 : List GOp := [b0 4 false]
def Q11r1 : List GOp := [m0 5 0, m0 6 1, o0 7 (.call 0 0 (.cst (.fn 149)) [(.tmp 5), (.tmp 6)] [] []), q0 8 .geq 7 0, m0 4 8]
def Q11b : AC := (.seq (.ops Q11r0) (.seq (.ops Q11r1) (.keep [] [(4, false)] [] [] [] .ret)))
def Q11 : Fd := ⟨2, [.tmp 4], [], Q11b⟩
theorem Q11_ag : agreeF Tryz.prog Tryz.f139 Q11 = true := by kernel_rfl
theorem slices_ContainsFunc_Date_Date_ok {s1 : List Int} {r : Bool} (h : slices_ContainsFunc_Date_Date s1 = some r) : Contract Tryz.prog 139 [Vl (eInt .i32) s1, .pv (.fn 138)] [] ⟨Vb r, [], []⟩ := by
 refine contract_fin hm Tryz.func139 Q11_ag (by kernel_rfl) ?_
 unfold slices_ContainsFunc_Date_Date at h
 refine W.seqOps Aw ?_
 obtain ⟨x2, hx2, h⟩ := bindS h
 refine W.seqOps (Bw 2 (RunR.cons (Tw (slices_IndexFunc_Date_Date_ok hx2) tab_nil) (Kw 149 [] (Vi x2) Hw) Aw)) ?_
 refine W.keep rfl ?_
 cases h
 exact W.ret Fw
def Q62r0 : List GOp := [k0 8 0]
def Q62r1 : List GOp := [o0 9 (.mov (.cst (.fn 138)))]
def Q62r2 : List GOp := [m0 11 0, e0 12 11, q0 13 .gtr 12 2000, m0 10 13]
def Q62r3 : List GOp := [k0 8 4]
def Q62r4 : List GOp := [m0 15 9, m0 16 1, o0 17 (.call 0 0 (.tmp 15) [(.tmp 16)] [] []), m0 18 17, g0 19 18 false (.mov (.tmp 9)), g0 20 18 false (.mov (.tmp 2)), g0 21 18 false (.call 0 0 (.tmp 19) [(.tmp 20)] [] []), o0 22 (.pick (.tmp 18) (.cst (.bool true)) (.tmp 21)), m0 23 22, g0 24 23 false (.mov (.tmp 1)), g0 25 23 false (.mov (.tmp 2)), g0 26 23 false (.bin false .gtr (.tmp 24) (.tmp 25)), o0 27 (.pick (.tmp 23) (.cst (.bool true)) (.tmp 26)), m0 28 27, g0 29 28 false (.mov (.tmp 3)), g0 30 28 false (.mov (.tmp 9)), g0 31 28 false (.call 0 0 (.cst (.fn 139)) [(.tmp 29), (.tmp 30)] [] []), o0 32 (.pick (.tmp 28) (.cst (.bool true)) (.tmp 31)), m0 14 32]
def Q62r5 : List GOp := [k0 8 11]
def Q62r6 : List GOp := [k0 8 0]
def Q62b : AC := (.seq (.ops Q62r0) (.seq (.ops Q62r1) (.seq (.pass 0 (.seq (.ops Q62r2) (.cond (.tmp 10) (.seq (.ops Q62r3) (.keep [] [(8, false)] [] [] [] .ret)) (.seq (.ops Q62r4) (.cond (.tmp 14) (.seq (.ops Q62r5) (.keep [] [(8, false)] [] [] [] .ret)) .skip))))) (.seq (.ops Q62r6) (.keep [] [(8, false)] [] [] [] .ret)))))
def Q62 : Fd := ⟨4, [.tmp 8], [], Q62b⟩
theorem Q62_ag : agreeF Tryz.prog Tryz.f109 Q62 = true := by kernel_rfl
theorem balance_may_ok {l1 : List T_api_Posting} {from_2 : Int} {to3 : Int} {more4 : List Int} {r : Int} (h : balance_may l1 from_2 to3 more4 = some r) : Contract Tryz.prog 109 [Vl T_api_Posting.pv l1, .pv (.int .i32 from_2), .pv (.int .i32 to3), Vl (eInt .i32) more4] [] ⟨Vi r, [], []⟩ := by
 refine contract_fin hm Tryz.func109 Q62_ag (by kernel_rfl) ?_
 unfold balance_may at h
 refine W.seqOps Aw ?_
 refine W.seqOps Aw ?_
 refine W.seqPass ?_
 refine W.assoc ?_
 refine W.seqOps (Bw 1 (RunR.dyn (Lw T_api_Posting.pv l1) Aw)) ?_
 refine W.seqCond (t := decide ((l1.length : Int) > 2000)) (by kernel_rfl) h (fun hc h' => ?_) (fun hc h' => ?_)
 ·replace h := h'
  refine W.assoc ?_
  refine W.seqOps Aw ?_
  refine W.seqKeep rfl ?_
  cases h
  exact W.seqRet Fw
 ·replace h := h'
  refine W.assoc ?_
  obtain ⟨x5, hx5, h⟩ := bindS h
  obtain ⟨x6, hx6, h⟩ := bindS h
  obtain ⟨c7, hc7, h⟩ := bindS h
  obtain ⟨c8, hc8, h⟩ := bindS h
  obtain ⟨x9, hx9, h⟩ := bindS h
  refine W.seqOps (Bw 2 (RunR.cons (Tw (balance_may_1_ok hx5) tab_nil) (Kw 138 [] (Vb x5) Hw) (Bw 1 (RunR.puts 2 [(20, (Bf (!x5) (.pv (.int .i32 to3)))), (19, (Bf (!x5) (.pv (.fn 138))))] (by cases x5 <;> kernel_rfl) (RunR.cons (tab_cons (on := (!x5)) (fun hg => balance_may_1_ok (gdO_at hg hx6)) tab_nil) (Step.gdG (!x5) (by kernel_rfl) (by
     cases x5
     ·exact .inr ⟨by kernel_rfl, by kernel_rfl, Kw 138 [] (Vb x6) Hw⟩
     ·exact .inl ⟨by kernel_rfl, by kernel_rfl⟩)) (RunR.puts 1 [(22, Vb (x5 || x6))] (by cases x5 <;> kernel_rfl) (RunR.dyn (Nw (x5 || x6) c7 hc7) (RunR.puts 4 [(27, Vb (c7 || (decide (from_2 > to3)))), (26, (Bf (!c7) (Vb (decide (from_2 > to3))))), (25, (Bf (!c7) (.pv (.int .i32 to3)))), (24, (Bf (!c7) (.pv (.int .i32 from_2))))] (by cases c7 <;> kernel_rfl) (RunR.dyn (Nw (c7 || (decide (from_2 > to3))) c8 hc8) (RunR.puts 2 [(30, (Bf (!c8) (.pv (.fn 138)))), (29, (Bf (!c8) (Vl (eInt .i32) more4)))] (by cases c8 <;> kernel_rfl) (RunR.cons (tab_cons (on := (!c8)) (fun hg => slices_ContainsFunc_Date_Date_ok (gdO_at hg hx9)) tab_nil) (Step.gdG (!c8) (by kernel_rfl) (by
     cases c8
     ·exact .inr ⟨by kernel_rfl, by kernel_rfl, Kw 139 [] (Vb x9) Hw⟩
     ·exact .inl ⟨by kernel_rfl, by kernel_rfl⟩)) (RunR.puts 1 [(32, Vb (c8 || x9))] (by cases c8 <;> kernel_rfl) Aw)))))))))))) ?_
  refine W.seqCond (t := (c8 || x9)) (by kernel_rfl) h (fun hc h' => ?_) (fun hc h' => ?_)
  ·replace h := h'
   refine W.assoc ?_
   refine W.seqOps Aw ?_
   refine W.seqKeep rfl ?_
   cases h
   exact W.seqRet Fw
  ·replace h := h'
   refine W.seqSkip ?_
   refine W.seqOps Aw ?_
   refine W.keep rfl ?_
   cases h
   exact W.ret Fw
def Q34r0 : List GOp := [b0 4 false]
def Q34r1 : List GOp := [m0 5 1, q0 6 .lss 5 0]
def Q34r2 : List GOp := [m0 7 1, o0 8 (.un .neg (.tmp 7)), m0 1 8]
def Q34r3 : List GOp := [m0 9 1, q0 10 .lss 9 0, m0 11 10, g0 12 11 false (.mov (.tmp 1)), g0 13 11 false (.mov (.tmp 0)), g0 14 11 false (.nchk (.tmp 13)), g0 15 11 false (.fld 0 (.tmp 14)), g0 16 11 false (.load false 1 (.tmp 15)), g0 17 11 false (.bin false .sub (.cst (.int .i64 1000000000000000000)) (.tmp 16)), g0 18 11 false (.bin false .gtr (.tmp 12) (.tmp 17)), o0 19 (.pick (.tmp 11) (.cst (.bool true)) (.tmp 18))]
def Q34r4 : List GOp := [b0 4 true]
def Q34r5 : List GOp := [m0 20 0, o0 21 (.nchk (.tmp 20)), f0 22 0 21, l0 23 1 22, m0 24 1, p0 25 .add 23 24, o0 26 (.nchk (.tmp 20)), f0 27 0 26, s0 1 27 25]
def Q34r6 : List GOp := [b0 4 false]
def Q34b : AC := (.seq (.ops Q34r0) (.seq (.seq (.ops Q34r1) (.cond (.tmp 6) (.ops Q34r2) .skip)) (.seq (.seq (.keep [] [(0, false), (1, false)] [(.ext 0, false)] [] [] (.ops Q34r3)) (.cond (.tmp 19) (.seq (.ops Q34r4) (.keep [] [(4, false)] [(.ext 0, false)] [] [] .ret)) .skip)) (.seq (.ops Q34r5) (.seq (.ops Q34r6) (.keep [] [(4, false)] [(.ext 0, false)] [] [] .ret))))))
def Q34 : Fd := ⟨2, [.tmp 4], [], Q34b⟩
theorem Q34_ag : agreeF Tryz.prog Tryz.f140 Q34 = true := by kernel_rfl
theorem balance_great_add_ok {n1 : Int} {e2 : T_balance_great} {r : Bool × Int} (h : balance_great_add n1 e2 = some r) : Contract Tryz.prog 140 [.ptr (.ext 0) 0, Vi n1] [.box [Vi e2.f_sum]] ⟨Vb r.1, [], [(some (.box [Vi r.2]))]⟩ := by
 refine contract_fin hm Tryz.func140 Q34_ag (by kernel_rfl) ?_
 unfold balance_great_add at h
 refine W.seqOps Aw ?_
 refine W.assoc ?_
 refine W.seqOps Aw ?_
 obtain ⟨j3, hj3, h⟩ := bindS h
 refine W.join (j := j3) (fun p σ => σ.tidy [] [(0, false), (1, false)] [(.ext 0, false)] [] [] = ⟨[(0, .ptr (.ext 0) 0), (1, Vi p)], [(.ext 0, .box [Vi e2.f_sum])]⟩) ?_ (fun σj3 hsj3 => ?_)
 ·replace h := hj3
  refine W.condI (t := decide (n1 < 0)) (by kernel_rfl) h (fun hc h' => ?_) (fun hc h' => ?_)
  ·replace h := h'
   refine W.ops Aw ?_
   cases h
   exact Jw
  ·replace h := h'
   cases h
   exact W.skip Jw
 ·refine W.assoc ?_
  refine W.seqKeep hsj3 ?_
  obtain ⟨c5, hc5, h⟩ := bindS h
  refine W.seqOps (Bw 2 (RunR.dyn (Nw (decide (j3 < 0)) c5 hc5) (RunR.puts 8 [(19, Vb (c5 || (decide (j3 > (IntKind.wrap .i64 (1000000000000000000 - e2.f_sum)))))), (18, (Bf (!c5) (Vb (decide (j3 > (IntKind.wrap .i64 (1000000000000000000 - e2.f_sum))))))), (17, (Bf (!c5) (Vi (IntKind.wrap .i64 (1000000000000000000 - e2.f_sum))))), (16, (Bf (!c5) (Vi e2.f_sum))), (15, (Bf (!c5) (.ptr (.ext 0) 0))), (14, (Bf (!c5) (.ptr (.ext 0) 0))), (13, (Bf (!c5) (.ptr (.ext 0) 0))), (12, (Bf (!c5) (Vi j3)))] (by cases c5 <;> kernel_rfl) ((.nil _))))) ?_
  refine W.seqCond (t := (c5 || (decide (j3 > (IntKind.wrap .i64 (1000000000000000000 - e2.f_sum)))))) (by kernel_rfl) h (fun hc h' => ?_) (fun hc h' => ?_)
  ·replace h := h'
   refine W.assoc ?_
   refine W.seqOps Aw ?_
   refine W.seqKeep rfl ?_
   cases h
   exact W.seqRet Fw
  ·replace h := h'
   refine W.seqSkip ?_
   refine W.seqOps Aw ?_
   refine W.seqOps Aw ?_
   refine W.keep rfl ?_
   cases h
   exact W.ret Fw
def Q50r0 : List GOp := [o0 6 (.mov .nils), k0 7 0]
def Q50r1 : List GOp := [o0 8 (.mov .nils)]
def Q50r2 : List GOp := [o0 9 (.alloc [.pv (.int .i64 0)])]
def Q50r3 : List GOp := [m0 14 0, e0 15 14, k0 16 0]
def Q50r4 : List GOp := [p0 17 .lss 16 15]
def Q50r5 : List GOp := [i0 18 7 14 16, t0 19 7 18, o0 11 (.alloc [.pv (.int .i64 0), .pv (.int .i32 0), .pv (.int .i32 0), .nils, .pv (.int .i64 0), .pv (.int .i64 0), .pv (.str [])]), s0 7 11 19]
def Q50r6 : List GOp := [f0 20 3 11, l0 21 1 20, e0 22 21, k0 23 0]
def Q50r7 : List GOp := [p0 24 .lss 23 22]
def Q50r8 : List GOp := [i0 25 3 21 23, t0 26 3 25, o0 13 (.alloc [.pv (.int .i64 0), .pv (.int .i64 0), .pv (.int .i64 0)]), s0 3 13 26]
def Q50r9 : List GOp := [f0 27 0 13, l0 28 1 27, m0 29 1, p0 30 .neq 28 29, m0 31 30, g0 32 31 false (.fld 1 (.tmp 13)), g0 33 31 false (.fld 0 (.tmp 32)), g0 34 31 false (.load false 1 (.tmp 33)), g0 35 31 false (.mov (.tmp 2)), g0 36 31 false (.bin false .neq (.tmp 34) (.tmp 35)), o0 37 (.pick (.tmp 31) (.cst (.bool true)) (.tmp 36))]
def Q50r10 : List GOp := [f0 38 1 13, f0 39 1 38, l0 40 1 39, o0 41 (.call 0 2 (.cst (.fn 140)) [(.tmp 9), (.tmp 40)] [] [.loc 9 0])]
def Q50r11 : List GOp := [o0 6 (.mov .nils), k0 7 9]
def Q50r12 : List GOp := [m0 42 8, f0 43 1 11, l0 44 1 43, f0 45 2 11, l0 46 1 45, f0 47 1 13, f0 48 1 47, l0 49 1 48, o0 50 (.build [.pv (.int .i32 0), .pv (.int .i32 0), .pv (.int .i64 0)] [(0, 1, (.tmp 44)), (1, 1, (.tmp 46)), (2, 1, (.tmp 49))]), o0 51 (.lit false 3 [(.tmp 50)]), o0 52 (.append 8 3 16 (.tmp 42) (.tmp 51)), m0 8 52]
def Q50r13 : List GOp := [q0 53 .add 23 1, m0 23 53]
def Q50l14 : AC := (.keep [] [(1, false), (2, false), (8, false), (9, false), (11, false), (14, false), (15, false), (16, false), (21, false), (22, false), (23, false)] [(.loc 8 0, false), (.loc 11 0, false), (.loc 9 0, false)] [] [] (.seq (.ops Q50r7) (.seq (.cond (.tmp 24) .skip (.exit 2)) (.seq (.block 3 (.seq (.ops Q50r8) (.seq (.seq (.ops Q50r9) (.cond (.tmp 37) (.exit 3) .skip)) (.seq (.seq (.ops Q50r10) (.cond (.tmp 41) (.seq (.ops Q50r11) (.keep [] [(6, true), (7, false)] [] [.loc 11 0, .loc 13 0, .loc 8 0, .loc 9 0] [] .ret)) .skip)) (.ops Q50r12))))) (.keep [] [(1, false), (2, false), (8, false), (9, false), (11, false), (14, false), (15, false), (16, false), (21, false), (22, false), (23, false)] [(.loc 8 0, false), (.loc 11 0, false), (.loc 9 0, false)] [.loc 13 0] [] (.ops Q50r13))))))
def Q50r15 : List GOp := [q0 54 .add 16 1, m0 16 54]
def Q50l16 : AC := (.keep [] [(1, false), (2, false), (8, false), (9, false), (14, false), (15, false), (16, false)] [(.loc 8 0, false), (.loc 9 0, false)] [] [.slot 8 (.loc 8 0) 3] (.seq (.ops Q50r4) (.seq (.cond (.tmp 17) .skip (.exit 0)) (.seq (.pass 1 (.seq (.ops Q50r5) (.seq (.ops Q50r6) (.block 2 (.loop [1, 2, 8, 9, 11, 14, 15, 16, 21, 22, 23] [] Q50l14))))) (.keep [] [(1, false), (2, false), (8, false), (9, false), (14, false), (15, false), (16, false)] [(.loc 8 0, false), (.loc 9 0, false)] [.loc 11 0] [] (.ops Q50r15))))))
def Q50r17 : List GOp := [m0 55 8, m0 6 55, k0 7 0]
def Q50b : AC := (.seq (.ops Q50r0) (.seq (.ops Q50r1) (.seq (.ops Q50r2) (.seq (.seq (.ops Q50r3) (.block 0 (.loop [1, 2, 8, 9, 14, 15, 16] [] Q50l16))) (.seq (.keep [.loc 8 0] [(8, true)] [] [.loc 9 0] [] (.ops Q50r17)) (.keep [] [(6, true), (7, false)] [] [.loc 11 0, .loc 13 0, .loc 8 0, .loc 9 0] [] .ret))))))
def Q50 : Fd := ⟨3, [.tmp 6, .tmp 7], [], Q50b⟩
theorem Q50_ag : agreeF Tryz.prog Tryz.f110 Q50 = true := by kernel_rfl
theorem balance_legs_ok {l1 : List T_api_Posting} {acc2 : Int} {cur3 : Int} {r : (List T_balance_leg) × Int} (h : balance_legs l1 acc2 cur3 = some r) : Contract Tryz.prog 110 [Vl T_api_Posting.pv l1, Vi acc2, Vi cur3] [] ⟨.tup [Vl T_balance_leg.pv r.1, Vi r.2], [], []⟩ := by
 refine contract_fin hm Tryz.func110 Q50_ag (by kernel_rfl) ?_
 unfold balance_legs at h
 refine W.seqOps Aw ?_
 refine W.seqOps Aw ?_
 refine W.seqOps Aw ?_
 refine W.assoc ?_
 refine W.seqOps (Bw 1 (RunR.dyn (Lw T_api_Posting.pv l1) Aw)) ?_
 obtain ⟨j4, hj4, h⟩ := bindS h
 refine W.joinOut (j := j4) (o := r) (fun p σ => σ.tidy [.loc 8 0] [(8, true)] [] [.loc 9 0] [] = ⟨[(8, Vl T_balance_leg.pv p)], []⟩) ?_ (fun out22 σj4 hp hsj4 => ?_) (fun p hp => ?_)
 ·refine W.blockLoopO (fun q σ => ((σ.forget [1, 2, 8, 9, 14, 15, 16]).killAll []).tidy [] [(1, false), (2, false), (8, false), (9, false), (14, false), (15, false), (16, false)] [(.loc 8 0, false), (.loc 9 0, false)] [] [.slot 8 (.loc 8 0) 3] = ⟨[(1, Vi acc2), (2, Vi cur3), (8, .own (.loc 8 0)), (9, .ptr (.loc 9 0) 0), (14, Vl T_api_Posting.pv l1), (15, Vi (l1.length : Int)), (16, Vi q.1)], [(.loc 8 0, .row 3 (List.map T_balance_leg.pv q.2.2)), (.loc 9 0, .box [Vi q.2.1])]⟩) hj4 ?_ ?_
  ·show _ = _
   kernel_rfl
  ·intro q σj4 oj4 hJj4 h
   obtain ⟨x5, g6, row7⟩ := q
   refine W.keep hJj4 ?_
   refine W.seqOps Aw ?_
   refine W.seqCond (t := decide (x5 < (l1.length : Int))) (by kernel_rfl) h (fun hc h' => ?_) (fun hc h' => ?_)
   ·replace h := h'
    refine W.seqSkip ?_
    refine W.seqPass ?_
    refine W.assoc ?_
    obtain ⟨x8, hx8, h⟩ := bindS h
    refine W.seqOps (RunR.dyn (Iw T_api_Posting.pv l1 x5 x8 hx8) Aw) ?_
    refine W.assoc ?_
    refine W.seqOps (Bw 2 (RunR.dyn (Lw T_api_Leg.pv x8.f_Legs) Aw)) ?_
    obtain ⟨j9, hj9, h⟩ := bindS h
    refine W.joinOut (j := j9) (o := oj4) (fun p σ => σ.tidy [] [(1, false), (2, false), (8, false), (9, false), (14, false), (15, false), (16, false)] [(.loc 8 0, false), (.loc 9 0, false)] [.loc 11 0] [] = ⟨[(1, Vi acc2), (2, Vi cur3), (8, .own (.loc 8 0)), (9, .ptr (.loc 9 0) 0), (14, Vl T_api_Posting.pv l1), (15, Vi (l1.length : Int)), (16, Vi x5)], [(.loc 8 0, .row 3 (List.map T_balance_leg.pv p.2)), (.loc 9 0, .box [Vi p.1])]⟩) ?_ (fun p σj9 hp hsj9 => ?_) (fun p hp => ?_)
    ·refine W.blockLoopO (fun q σ => ((σ.forget [1, 2, 8, 9, 11, 14, 15, 16, 21, 22, 23]).killAll []).tidy [] [(1, false), (2, false), (8, false), (9, false), (11, false), (14, false), (15, false), (16, false), (21, false), (22, false), (23, false)] [(.loc 8 0, false), (.loc 11 0, false), (.loc 9 0, false)] [] [] = ⟨[(1, Vi acc2), (2, Vi cur3), (8, .own (.loc 8 0)), (9, .ptr (.loc 9 0) 0), (11, .ptr (.loc 11 0) 0), (14, Vl T_api_Posting.pv l1), (15, Vi (l1.length : Int)), (16, Vi x5), (21, Vl T_api_Leg.pv x8.f_Legs), (22, Vi (x8.f_Legs.length : Int)), (23, Vi q.1)], [(.loc 8 0, .row 3 (List.map T_balance_leg.pv q.2.2)), (.loc 11 0, .box [Vi x8.f_ID, .pv (.int .i32 x8.f_Known), .pv (.int .i32 x8.f_Value), Vl T_api_Leg.pv x8.f_Legs, Vi x8.f_Reverses, Vi x8.f_Kind, .pv (.str x8.f_Memo)]), (.loc 9 0, .box [Vi q.2.1])]⟩) hj9 ?_ ?_
     ·show _ = _
      kernel_rfl
     ·intro q σj9 oj9 hJj9 h
      obtain ⟨x10, g11, row12⟩ := q
      refine W.keep hJj9 ?_
      refine W.seqOps Aw ?_
      refine W.seqCond (t := decide (x10 < (x8.f_Legs.length : Int))) (by kernel_rfl) h (fun hc h' => ?_) (fun hc h' => ?_)
      ·replace h := h'
       refine W.seqSkip ?_
       obtain ⟨j13, hj13, h⟩ := bindS h
       refine W.joinOut (j := j13) (o := oj9) (fun p σ => σ.tidy [] [(1, false), (2, false), (8, false), (9, false), (11, false), (14, false), (15, false), (16, false), (21, false), (22, false), (23, false)] [(.loc 8 0, false), (.loc 11 0, false), (.loc 9 0, false)] [.loc 13 0] [] = ⟨[(1, Vi acc2), (2, Vi cur3), (8, .own (.loc 8 0)), (9, .ptr (.loc 9 0) 0), (11, .ptr (.loc 11 0) 0), (14, Vl T_api_Posting.pv l1), (15, Vi (l1.length : Int)), (16, Vi x5), (21, Vl T_api_Leg.pv x8.f_Legs), (22, Vi (x8.f_Legs.length : Int)), (23, Vi x10)], [(.loc 8 0, .row 3 (List.map T_balance_leg.pv p.2)), (.loc 11 0, .box [Vi x8.f_ID, .pv (.int .i32 x8.f_Known), .pv (.int .i32 x8.f_Value), Vl T_api_Leg.pv x8.f_Legs, Vi x8.f_Reverses, Vi x8.f_Kind, .pv (.str x8.f_Memo)]), (.loc 9 0, .box [Vi p.1])]⟩) ?_ (fun p σj13 hp hsj13 => ?_) (fun p hp => ?_)
       ·refine W.blockJO ?_
        replace h := hj13
        obtain ⟨x14, hx14, h⟩ := bindS h
        refine W.seqOps (RunR.dyn (Iw T_api_Leg.pv x8.f_Legs x10 x14 hx14) Aw) ?_
        refine W.assoc ?_
        obtain ⟨c15, hc15, h⟩ := bindS h
        refine W.seqOps (Bw 4 (RunR.dyn (Nw (x14.f_Acc != acc2) c15 hc15) (RunR.puts 6 [(37, Vb (c15 || (x14.f_Amount.f_Cur != cur3))), (36, (Bf (!c15) (Vb (x14.f_Amount.f_Cur != cur3)))), (35, (Bf (!c15) (Vi cur3))), (34, (Bf (!c15) (Vi x14.f_Amount.f_Cur))), (33, (Bf (!c15) (.ptr (.loc 13 0) 1))), (32, (Bf (!c15) (.ptr (.loc 13 0) 1)))] (by cases c15 <;> kernel_rfl) ((.nil _))))) ?_
        refine W.seqCond (t := (c15 || (x14.f_Amount.f_Cur != cur3))) (by kernel_rfl) h (fun hc h' => ?_) (fun hc h' => ?_)
        ·replace h := h'
         cases h
         exact W.seqExit ((bout_x (by (show _ = _); kernel_rfl)))
        ·replace h := h'
         refine W.seqSkip ?_
         refine W.assoc ?_
         obtain ⟨x16, hx16, h⟩ := bindS h
         refine W.seqOps (Bw 3 (RunR.cons (Tw (balance_great_add_ok hx16) tab_nil) (Step.callG (g := 140) (caps := []) (v := Vb x16.1) (ins := []) rfl (by kernel_rfl) (by kernel_rfl) (by kernel_rfl) Hw (by kernel_rfl) (by kernel_rfl)) ((.nil _)))) ?_
         refine W.seqCond (t := x16.1) (by kernel_rfl) h (fun hc h' => ?_) (fun hc h' => ?_)
         ·replace h := h'
          refine W.assoc ?_
          refine W.seqOps Aw ?_
          refine W.seqKeep rfl ?_
          cases h
          exact W.seqRet ((bout_o ret_ne ret_ne' (fun e => by subst e; exact (outw_out ret_ne (bout_o ret_ne ret_ne' (fun e => by subst e; exact (outw_out ret_ne (bout_o ret_ne ret_ne' (fun e => by subst e; exact Fw)))))))))
         ·replace h := h'
          refine W.seqSkip ?_
          obtain ⟨x17, hx17, h⟩ := bindS h
          refine W.ops (Bw 10 (RunR.dyn (Step.appendOwnT (k := .loc 8 0) (f := T_balance_leg.pv) (l := row12) (m := [(⟨x8.f_Known, x8.f_Value, x14.f_Amount.f_Minor⟩ : T_balance_leg)]) (by kernel_rfl) (by kernel_rfl) (by kernel_rfl) hx17 (fun _ => rfl) (by kernel_rfl)) Aw)) ?_
          cases h
          exact (bout_n (by (show _ = _); kernel_rfl))
       ·subst hp
        obtain ⟨g18, row19⟩ := p
        refine W.keep hsj13 ?_
        refine W.ops Aw ?_
        cases h
        exact Ow
       ·subst hp
        exact Option.some.inj h
      ·replace h := h'
       cases h
       exact W.seqExit ((outw_out exit_ne (bout_x (by (show _ = _); kernel_rfl))))
    ·subst hp
     obtain ⟨g20, row21⟩ := p
     refine W.keep hsj9 ?_
     refine W.ops Aw ?_
     cases h
     exact Ow
    ·subst hp
     exact Option.some.inj h
   ·replace h := h'
    cases h
    exact W.seqExit ((outw_out exit_ne (bout_x (by (show _ = _); kernel_rfl))))
 ·subst hp
  refine W.seqKeep hsj4 ?_
  refine W.seqOps Aw ?_
  refine W.keep rfl ?_
  cases h
  exact W.ret Fw
 ·subst hp
  exact Option.some.inj h
def Q51r0 : List GOp := [o0 2 (.box (.tmp 0)), b0 3 false]
def Q51r1 : List GOp := [f0 4 1 2, l0 5 1 4, l0 6 1 1, p0 7 .leq 5 6, m0 3 7]
def Q51b : AC := (.seq (.ops Q51r0) (.seq (.ops Q51r1) (.keep [] [(3, false)] [(.ext 0, false)] [.loc 2 0] [] .ret)))
def Q51 : Fd := ⟨2, [.tmp 3], [], Q51b⟩
theorem Q51_ag : agreeF Tryz.prog Tryz.f112 Q51 = true := by kernel_rfl
theorem balance_Of_1_ok {x1 : T_balance_leg} {e2 : Int} {r : Bool} (h : balance_Of_1 x1 e2 = some r) : Contract Tryz.prog 112 [.pv (T_balance_leg.pv x1), .ptr (.ext 0) 0] [.box [.pv (.int .i32 e2)]] ⟨Vb r, [], [(some (.box [.pv (.int .i32 e2)]))]⟩ := by
 refine contract_fin hm Tryz.func112 Q51_ag (by kernel_rfl) ?_
 unfold balance_Of_1 at h
 refine W.seqOps Aw ?_
 refine W.seqOps Aw ?_
 refine W.keep rfl ?_
 cases h
 exact W.ret Fw
def Q63r0 : List GOp := [k0 4 0]
def Q63r1 : List GOp := [k0 5 0]
def Q63r2 : List GOp := [m0 8 0, e0 9 8, k0 10 0]
def Q63r3 : List GOp := [p0 11 .lss 10 9]
def Q63r4 : List GOp := [i0 12 3 8 10, t0 13 3 12, o0 7 (.alloc [.pv (.int .i32 0), .pv (.int .i32 0), .pv (.int .i64 0)]), s0 3 7 13]
def Q63r5 : List GOp := [m0 14 1, t0 15 3 7, o0 16 (.call 0 2 (.tmp 14) [(.tmp 15)] [] [.ext 0])]
def Q63r6 : List GOp := [m0 17 5, f0 18 2 7, l0 19 1 18, p0 20 .add 17 19, m0 5 20]
def Q63r7 : List GOp := [q0 21 .add 10 1, m0 10 21]
def Q63l8 : AC := (.keep [] [(1, false), (5, false), (8, false), (9, false), (10, false)] [(.ext 0, false)] [] [] (.seq (.ops Q63r3) (.seq (.cond (.tmp 11) .skip (.exit 0)) (.seq (.pass 1 (.seq (.ops Q63r4) (.seq (.ops Q63r5) (.cond (.tmp 16) (.ops Q63r6) .skip)))) (.keep [] [(1, false), (5, false), (8, false), (9, false), (10, false)] [(.ext 0, false)] [.loc 7 0] [] (.ops Q63r7))))))
def Q63r9 : List GOp := [m0 22 5, m0 4 22]
def Q63b : AC := (.seq (.ops Q63r0) (.seq (.ops Q63r1) (.seq (.seq (.ops Q63r2) (.block 0 (.loop [1, 5, 8, 9, 10] [] Q63l8))) (.seq (.keep [] [(5, false)] [(.ext 0, false)] [] [] (.ops Q63r9)) (.keep [] [(4, false)] [(.ext 0, false)] [] [] .ret)))))
def Q63 : Fd := ⟨2, [.tmp 4], [], Q63b⟩
theorem Q63_ag : agreeF Tryz.prog Tryz.f111 Q63 = true := by kernel_rfl
theorem balance_sum_ok {l1 : List T_balance_leg} {e2 : Int} {r : Int} (h : balance_sum l1 e2 = some r) : Contract Tryz.prog 111 [Vl T_balance_leg.pv l1, .fn 112 [.ptr (.ext 0) 0]] [.box [.pv (.int .i32 e2)]] ⟨Vi r, [], [(some (.box [.pv (.int .i32 e2)]))]⟩ := by
 refine contract_fin hm Tryz.func111 Q63_ag (by kernel_rfl) ?_
 unfold balance_sum at h
 refine W.seqOps Aw ?_
 refine W.seqOps Aw ?_
 refine W.assoc ?_
 refine W.seqOps (Bw 1 (RunR.dyn (Lw T_balance_leg.pv l1) Aw)) ?_
 obtain ⟨j3, hj3, h⟩ := bindS h
 refine W.join (j := j3) (fun p σ => σ.tidy [] [(5, false)] [(.ext 0, false)] [] [] = ⟨[(5, Vi p)], [(.ext 0, .box [.pv (.int .i32 e2)])]⟩) ?_ (fun σj3 hsj3 => ?_)
 ·refine W.blockLoop (fun q σ => ((σ.forget [1, 5, 8, 9, 10]).killAll []).tidy [] [(1, false), (5, false), (8, false), (9, false), (10, false)] [(.ext 0, false)] [] [] = ⟨[(1, .fn 112 [.ptr (.ext 0) 0]), (5, Vi q.1), (8, Vl T_balance_leg.pv l1), (9, Vi (l1.length : Int)), (10, Vi q.2)], [(.ext 0, .box [.pv (.int .i32 e2)])]⟩) hj3 ?_ ?_
  ·show _ = _
   kernel_rfl
  ·intro q σj3 oj3 hJj3 h
   obtain ⟨n4, x5⟩ := q
   refine W.keep hJj3 ?_
   refine W.seqOps Aw ?_
   refine W.seqCond (t := decide (x5 < (l1.length : Int))) (by kernel_rfl) h (fun hc h' => ?_) (fun hc h' => ?_)
   ·replace h := h'
    refine W.seqSkip ?_
    refine W.seqPass ?_
    refine W.assoc ?_
    obtain ⟨x6, hx6, h⟩ := bindS h
    refine W.seqOps (RunR.dyn (Iw T_balance_leg.pv l1 x5 x6 hx6) Aw) ?_
    refine W.assoc ?_
    obtain ⟨x7, hx7, h⟩ := bindS h
    refine W.seqOps (Bw 2 (RunR.cons (Tw (balance_Of_1_ok hx7) tab_nil) (Step.callG (g := 112) (caps := [.ptr (.ext 0) 0]) (v := Vb x7) (ins := []) rfl (by kernel_rfl) (by kernel_rfl) (by kernel_rfl) Hw (by kernel_rfl) (by kernel_rfl)) ((.nil _)))) ?_
    obtain ⟨j8, hj8, h⟩ := bindS h
    refine W.join (j := j8) (fun p σ => σ.tidy [] [(1, false), (5, false), (8, false), (9, false), (10, false)] [(.ext 0, false)] [.loc 7 0] [] = ⟨[(1, .fn 112 [.ptr (.ext 0) 0]), (5, Vi p), (8, Vl T_balance_leg.pv l1), (9, Vi (l1.length : Int)), (10, Vi x5)], [(.ext 0, .box [.pv (.int .i32 e2)])]⟩) ?_ (fun σj8 hsj8 => ?_)
    ·replace h := hj8
     refine W.condI (t := x7) (by kernel_rfl) h (fun hc h' => ?_) (fun hc h' => ?_)
     ·replace h := h'
      refine W.ops Aw ?_
      cases h
      exact Jw
     ·replace h := h'
      cases h
      exact W.skip Jw
    ·refine W.keep hsj8 ?_
     refine W.ops Aw ?_
     cases h
     exact Ow
   ·replace h := h'
    cases h
    exact W.seqExit ((outw_out exit_ne (bnorm_x (by (show _ = _); kernel_rfl))))
 ·refine W.seqKeep hsj3 ?_
  refine W.seqOps Aw ?_
  refine W.keep rfl ?_
  cases h
  exact W.ret Fw
def Q72r0 : List GOp := [o0 7 (.box (.tmp 3)), k0 8 0, k0 9 0]
def Q72r1 : List GOp := [m0 13 0, l0 14 1 7, l0 15 1 7, o0 16 (.call 0 0 (.cst (.fn 109)) [(.tmp 13), (.tmp 14), (.tmp 15), .nils] [] []), m0 10 16]
def Q72r2 : List GOp := [m0 17 10, q0 18 .neq 17 0]
def Q72r3 : List GOp := [m0 19 10, k0 8 0, m0 9 19]
def Q72r4 : List GOp := [m0 21 0, m0 22 1, m0 23 2, o0 24 (.call 0 0 (.cst (.fn 110)) [(.tmp 21), (.tmp 22), (.tmp 23)] [] []), m0 20 24, o0 25 (.ext 0 (.tmp 20)), o0 26 (.ext 1 (.tmp 20)), m0 11 25, m0 12 26]
def Q72r5 : List GOp := [m0 27 11, o0 28 (.mkfn 112 [(.tmp 7)]), o0 29 (.call 0 2 (.cst (.fn 111)) [(.tmp 27), (.tmp 28)] [] [.loc 7 0]), m0 30 12, m0 8 29, m0 9 30]
def Q72b : AC := (.seq (.ops Q72r0) (.seq (.seq (.ops Q72r1) (.seq (.ops Q72r2) (.cond (.tmp 18) (.seq (.ops Q72r3) (.keep [] [(8, false), (9, false)] [] [.loc 7 0] [] .ret)) .skip))) (.seq (.ops Q72r4) (.seq (.ops Q72r5) (.keep [] [(8, false), (9, false)] [] [.loc 7 0] [] .ret)))))
def Q72 : Fd := ⟨4, [.tmp 8, .tmp 9], [], Q72b⟩
theorem Q72_ag : agreeF Tryz.prog Tryz.f67 Q72 = true := by kernel_rfl
theorem balance_Of_ok {l1 : List T_api_Posting} {acc2 : Int} {cur3 : Int} {upto4 : Int} {r : Int × Int} (h : balance_Of l1 acc2 cur3 upto4 = some r) : Contract Tryz.prog 67 [Vl T_api_Posting.pv l1, Vi acc2, Vi cur3, .pv (.int .i32 upto4)] [] ⟨.tup [Vi r.1, Vi r.2], [], []⟩ := by
 refine contract_fin hm Tryz.func67 Q72_ag (by kernel_rfl) ?_
 unfold balance_Of at h
 refine W.seqOps Aw ?_
 refine W.assoc ?_
 obtain ⟨x5, hx5, h⟩ := bindS h
 refine W.seqOps (Bw 3 (RunR.cons (Tw (balance_may_ok hx5) tab_nil) (Kw 109 [] (Vi x5) Hw) Aw)) ?_
 refine W.assoc ?_
 refine W.seqOps Aw ?_
 refine W.seqCond (t := (x5 != 0)) (by kernel_rfl) h (fun hc h' => ?_) (fun hc h' => ?_)
 ·replace h := h'
  refine W.assoc ?_
  refine W.seqOps Aw ?_
  refine W.seqKeep rfl ?_
  cases h
  exact W.seqRet Fw
 ·replace h := h'
  refine W.seqSkip ?_
  obtain ⟨x6, hx6, h⟩ := bindS h
  refine W.seqOps (Bw 3 (RunR.cons (Tw (balance_legs_ok hx6) tab_nil) (Kw 110 [] (.tup [Vl T_balance_leg.pv x6.1, Vi x6.2]) Hw) Aw)) ?_
  obtain ⟨x7, hx7, h⟩ := bindS h
  refine W.seqOps (Bw 2 (RunR.cons (Tw (balance_sum_ok hx7) tab_nil) (Step.callG (g := 111) (caps := []) (v := Vi x7) (ins := []) rfl (by kernel_rfl) (by kernel_rfl) (by kernel_rfl) Hw (by kernel_rfl) (by kernel_rfl)) Aw)) ?_
  refine W.keep rfl ?_
  cases h
  exact W.ret Fw
def Q64r0 : List GOp := [o0 2 (.box (.tmp 0)), b0 3 false]
def Q64r1 : List GOp := [f0 4 0 2, l0 5 1 4, l0 6 1 1, p0 7 .eql 5 6, m0 3 7]
def Q64b : AC := (.seq (.ops Q64r0) (.seq (.ops Q64r1) (.keep [] [(3, false)] [(.ext 0, false)] [.loc 2 0] [] .ret)))
def Q64 : Fd := ⟨2, [.tmp 3], [], Q64b⟩
theorem Q64_ag : agreeF Tryz.prog Tryz.f69 Q64 = true := by kernel_rfl
theorem avail_ask_1_ok {x1 : T_api_Limit} {e2 : Int} {r : Bool} (h : avail_ask_1 x1 e2 = some r) : Contract Tryz.prog 69 [.pv (T_api_Limit.pv x1), .ptr (.ext 0) 0] [.box [Vi e2]] ⟨Vb r, [], [(some (.box [Vi e2]))]⟩ := by
 refine contract_fin hm Tryz.func69 Q64_ag (by kernel_rfl) ?_
 unfold avail_ask_1 at h
 refine W.seqOps Aw ?_
 refine W.seqOps Aw ?_
 refine W.keep rfl ?_
 cases h
 exact W.ret Fw
def Q13r0 : List GOp := [k0 4 0]
def Q13r1 : List GOp := [m0 6 0, e0 7 6, k0 8 0]
def Q13r2 : List GOp := [p0 9 .lss 8 7]
def Q13r3 : List GOp := [m0 10 8, m0 5 10]
def Q13r4 : List GOp := [m0 11 1, m0 12 0, m0 13 5, i0 14 2 12 13, t0 15 2 14, o0 16 (.call 0 2 (.tmp 11) [(.tmp 15)] [] [.ext 0])]
def Q13r5 : List GOp := [m0 17 5, m0 4 17]
def Q13r6 : List GOp := [q0 18 .add 8 1, m0 8 18]
def Q13l7 : AC := (.keep [] [(0, false), (1, false), (7, false), (8, false)] [(.ext 0, false)] [] [] (.seq (.ops Q13r2) (.seq (.cond (.tmp 9) .skip (.exit 0)) (.seq (.pass 1 (.seq (.ops Q13r3) (.seq (.ops Q13r4) (.cond (.tmp 16) (.seq (.ops Q13r5) (.keep [] [(4, false)] [(.ext 0, false)] [] [] .ret)) .skip)))) (.ops Q13r6)))))
def Q13r8 : List GOp := [k0 4 (-1)]
def Q13b : AC := (.seq (.ops Q13r0) (.seq (.seq (.ops Q13r1) (.block 0 (.loop [0, 1, 7, 8] [] Q13l7))) (.seq (.keep [] [] [(.ext 0, false)] [] [] (.ops Q13r8)) (.keep [] [(4, false)] [(.ext 0, false)] [] [] .ret))))
def Q13 : Fd := ⟨2, [.tmp 4], [], Q13b⟩
theorem Q13_ag : agreeF Tryz.prog Tryz.f68 Q13 = true := by kernel_rfl
theorem slices_IndexFunc_Limit_Limit_ok {s1 : List T_api_Limit} {e2 : Int} {r : Int} (h : slices_IndexFunc_Limit_Limit s1 e2 = some r) : Contract Tryz.prog 68 [Vl T_api_Limit.pv s1, .fn 69 [.ptr (.ext 0) 0]] [.box [Vi e2]] ⟨Vi r, [], [(some (.box [Vi e2]))]⟩ := by
 refine contract_fin hm Tryz.func68 Q13_ag (by kernel_rfl) ?_
 unfold slices_IndexFunc_Limit_Limit at h
 refine W.seqOps Aw ?_
 refine W.assoc ?_
 refine W.seqOps (Bw 1 (RunR.dyn (Lw T_api_Limit.pv s1) Aw)) ?_
 obtain ⟨j3, hj3, h⟩ := bindS h
 refine W.joinOut (j := j3) (o := r) (fun p σ => σ.tidy [] [] [(.ext 0, false)] [] [] = ⟨[], [(.ext 0, .box [Vi e2])]⟩) ?_ (fun p σj3 hp hsj3 => ?_) (fun p hp => ?_)
 ·refine W.blockLoopO (fun q σ => ((σ.forget [0, 1, 7, 8]).killAll []).tidy [] [(0, false), (1, false), (7, false), (8, false)] [(.ext 0, false)] [] [] = ⟨[(0, Vl T_api_Limit.pv s1), (1, .fn 69 [.ptr (.ext 0) 0]), (7, Vi (s1.length : Int)), (8, Vi q)], [(.ext 0, .box [Vi e2])]⟩) hj3 ?_ ?_
  ·show _ = _
   kernel_rfl
  ·intro x4 σj3 oj3 hJj3 h
   refine W.keep hJj3 ?_
   refine W.seqOps Aw ?_
   refine W.seqCond (t := decide (x4 < (s1.length : Int))) (by kernel_rfl) h (fun hc h' => ?_) (fun hc h' => ?_)
   ·replace h := h'
    refine W.seqSkip ?_
    refine W.seqPass ?_
    refine W.assoc ?_
    refine W.seqOps Aw ?_
    refine W.assoc ?_
    obtain ⟨x5, hx5, h⟩ := bindS h
    obtain ⟨x6, hx6, h⟩ := bindS h
    refine W.seqOps (Bw 3 (RunR.dyn (Iw T_api_Limit.pv s1 x4 x5 hx5) (Bw 1 (RunR.cons (Tw (avail_ask_1_ok hx6) tab_nil) (Step.callG (g := 69) (caps := [.ptr (.ext 0) 0]) (v := Vb x6) (ins := []) rfl (by kernel_rfl) (by kernel_rfl) (by kernel_rfl) Hw (by kernel_rfl) (by kernel_rfl)) ((.nil _)))))) ?_
    refine W.seqCond (t := x6) (by kernel_rfl) h (fun hc h' => ?_) (fun hc h' => ?_)
    ·replace h := h'
     refine W.assoc ?_
     refine W.seqOps Aw ?_
     refine W.seqKeep rfl ?_
     cases h
     exact W.seqRet ((outw_out ret_ne (bout_o ret_ne ret_ne' (fun e => by subst e; exact Fw))))
    ·replace h := h'
     refine W.seqSkip ?_
     refine W.ops Aw ?_
     cases h
     exact Ow
   ·replace h := h'
    cases h
    exact W.seqExit ((outw_out exit_ne (bout_x (by (show _ = _); kernel_rfl))))
 ·subst hp
  obtain ⟨⟩ := p
  refine W.seqKeep hsj3 ?_
  refine W.seqOps Aw ?_
  refine W.keep rfl ?_
  cases h
  exact W.ret Fw
 ·subst hp
  exact Option.some.inj h
def Q77r0 : List GOp := [o0 3 (.box (.tmp 0)), o0 4 (.box (.tmp 1)), o0 6 (.alloc [.pv (.int .i64 0), .pv (.int .i64 0), .pv (.int .i64 0)]), o0 7 (.mov (.cst .nilI))]
def Q77r1 : List GOp := [f0 17 0 3, t0 18 2 17, l0 19 1 4, o0 20 (.call 0 0 (.cst (.fn 64)) [(.tmp 18), (.tmp 19)] [] []), m0 16 20, o0 21 (.ext 0 (.tmp 16)), o0 22 (.ext 1 (.tmp 16)), o0 8 (.alloc [.pv (.int .i64 0), .pv (.int .i64 0), .pv (.int .i64 0), .pv (.int .i64 0), .pv (.int .i64 0), .pv (.int .i64 0), .pv (.int .i32 0), .pv (.int .i32 0)]), s0 8 8 21, m0 9 22]
def Q77r2 : List GOp := [m0 23 9, o0 24 (.call 0 0 (.cst (.fn 65)) [(.tmp 23)] [] []), m0 10 24]
def Q77r3 : List GOp := [m0 25 10, o0 26 (.isNil true (.tmp 25))]
def Q77r4 : List GOp := [o0 27 (.build [.pv (.int .i64 0), .pv (.int .i64 0), .pv (.int .i64 0)] []), m0 28 10, s0 3 6 27, m0 7 28]
def Q77r5 : List GOp := [f0 29 1 8, l0 30 1 29, q0 31 .neq 30 1]
def Q77r6 : List GOp := [o0 32 (.build [.pv (.int .i64 0), .pv (.int .i64 0), .pv (.int .i64 0)] []), o0 33 (.build [.pv (.int .i64 0)] [(0, 1, (.cst (.int .i64 13)))]), o0 34 (.mkI 113 (.tmp 33)), s0 3 6 32, m0 7 34]
def Q77r7 : List GOp := [f0 36 0 3, t0 37 2 36, l0 38 1 4, m0 39 2, o0 40 (.call 0 0 (.cst (.fn 66)) [(.tmp 37), (.tmp 38), (.tmp 39)] [] []), m0 35 40, o0 41 (.ext 0 (.tmp 35)), o0 42 (.ext 1 (.tmp 35)), m0 11 41, m0 9 42]
def Q77r8 : List GOp := [m0 43 9, o0 44 (.call 0 0 (.cst (.fn 65)) [(.tmp 43)] [] []), m0 12 44]
def Q77r9 : List GOp := [m0 45 12, o0 46 (.isNil true (.tmp 45))]
def Q77r10 : List GOp := [o0 47 (.build [.pv (.int .i64 0), .pv (.int .i64 0), .pv (.int .i64 0)] []), m0 48 12, s0 3 6 47, m0 7 48]
def Q77r11 : List GOp := [m0 49 11, o0 50 (.un .not (.tmp 49))]
def Q77r12 : List GOp := [o0 51 (.build [.pv (.int .i64 0), .pv (.int .i64 0), .pv (.int .i64 0)] []), o0 52 (.build [.pv (.int .i64 0)] [(0, 1, (.cst (.int .i64 16)))]), o0 53 (.mkI 113 (.tmp 52)), s0 3 6 51, m0 7 53]
def Q77r13 : List GOp := [f0 55 2 3, l0 56 1 55, l0 57 1 4, f0 58 2 8, l0 59 1 58, m0 60 2, o0 61 (.call 0 0 (.cst (.fn 67)) [(.tmp 56), (.tmp 57), (.tmp 59), (.tmp 60)] [] []), m0 54 61, o0 62 (.ext 0 (.tmp 54)), o0 63 (.ext 1 (.tmp 54)), m0 13 62, m0 9 63]
def Q77r14 : List GOp := [f0 64 2 8, l0 65 1 64, m0 66 13, o0 67 (.un .neg (.tmp 66)), o0 68 (.build [.pv (.int .i64 0), .pv (.int .i64 0), .pv (.int .i64 0)] [(0, 1, (.tmp 65)), (1, 1, (.tmp 67))]), o0 14 (.alloc [.pv (.int .i64 0), .pv (.int .i64 0), .pv (.int .i64 0)]), s0 3 14 68]
def Q77r15 : List GOp := [f0 69 4 3, l0 70 1 69, o0 71 (.mkfn 69 [(.tmp 4)]), o0 72 (.call 0 2 (.cst (.fn 68)) [(.tmp 70), (.tmp 71)] [] [.loc 4 0]), m0 15 72]
def Q77r16 : List GOp := [m0 73 15, q0 74 .geq 73 0]
def Q77r17 : List GOp := [f0 75 4 3, l0 76 1 75, m0 77 15, i0 78 2 76 77, f0 79 1 78, l0 80 1 79, f0 81 2 14, s0 1 81 80]
def Q77r18 : List GOp := [t0 82 3 14, m0 83 9, o0 84 (.call 0 0 (.cst (.fn 65)) [(.tmp 83)] [] []), s0 3 6 82, m0 7 84]
def Q77b : AC := (.seq (.ops Q77r0) (.seq (.ops Q77r1) (.seq (.seq (.ops Q77r2) (.seq (.ops Q77r3) (.cond (.tmp 26) (.seq (.ops Q77r4) (.keep [] [(6, false), (7, false)] [(.loc 6 0, false)] [.loc 14 0, .loc 3 0, .loc 4 0, .loc 8 0] [] .ret)) .skip))) (.seq (.seq (.ops Q77r5) (.cond (.tmp 31) (.seq (.ops Q77r6) (.keep [] [(6, false), (7, false)] [(.loc 6 0, false)] [.loc 14 0, .loc 3 0, .loc 4 0, .loc 8 0] [] .ret)) .skip)) (.seq (.ops Q77r7) (.seq (.seq (.ops Q77r8) (.seq (.ops Q77r9) (.cond (.tmp 46) (.seq (.ops Q77r10) (.keep [] [(6, false), (7, false)] [(.loc 6 0, false)] [.loc 14 0, .loc 3 0, .loc 4 0, .loc 8 0] [] .ret)) .skip))) (.seq (.seq (.ops Q77r11) (.cond (.tmp 50) (.seq (.ops Q77r12) (.keep [] [(6, false), (7, false)] [(.loc 6 0, false)] [.loc 14 0, .loc 3 0, .loc 4 0, .loc 8 0] [] .ret)) .skip)) (.seq (.ops Q77r13) (.seq (.ops Q77r14) (.seq (.seq (.ops Q77r15) (.seq (.ops Q77r16) (.cond (.tmp 74) (.ops Q77r17) .skip))) (.seq (.keep [] [(6, false), (9, false), (14, false)] [(.loc 14 0, false), (.loc 6 0, false)] [.loc 3 0, .loc 4 0, .loc 8 0] [] (.draw [] Q77r18)) (.keep [] [(6, false), (7, false)] [(.loc 6 0, false)] [.loc 14 0, .loc 3 0, .loc 4 0, .loc 8 0] [] .ret))))))))))))
def Q77 : Fd := ⟨3, [.cell 6 true 3, .tmp 7], [], Q77b⟩
theorem Q77_ag : agreeF Tryz.prog Tryz.f28 Q77 = true := by kernel_rfl
theorem avail_ask_ok {t1 : T_api_Till} {acc2 : Int} {now3 : Int} {r : T_avail_account × (Option Int)} (h : avail_ask t1 acc2 now3 = some r) : Contract Tryz.prog 28 [.pv (T_api_Till.pv t1), Vi acc2, .pv (.int .i32 now3)] [] ⟨.tup [.pv (T_avail_account.pv r.1), .pv (eErr 113 r.2)], [], []⟩ := by
 refine contract_fin hm Tryz.func28 Q77_ag (by kernel_rfl) ?_
 unfold avail_ask at h
 refine W.seqOps Aw ?_
 obtain ⟨x4, hx4, h⟩ := bindS h
 refine W.seqOps (Bw 3 (RunR.cons (Tw (chart_Find_ok hx4) tab_nil) (Kw 64 [] (.tup [.pv (T_api_Record.pv x4.1), Vi x4.2]) Hw) Aw)) ?_
 refine W.assoc ?_
 obtain ⟨x5, hx5, h⟩ := bindS h
 refine W.seqOps (Bw 1 (RunR.cons (Tw (avail_check_ok hx5) tab_nil) (Kw 65 [] (.pv (eErr 113 x5)) Hw) Aw)) ?_
 refine W.assoc ?_
 refine W.seqOps (Bw 1 (RunR.dyn (Step.isNilT (t := 113) (e := x5) (by kernel_rfl)) ((.nil _)))) ?_
 refine W.seqCond (t := Option.isSome x5) (by kernel_rfl) h (fun hc h' => ?_) (fun hc h' => ?_)
 ·replace h := h'
  refine W.assoc ?_
  refine W.seqOps Aw ?_
  refine W.seqKeep rfl ?_
  cases h
  exact W.seqRet Fw
 ·replace h := h'
  refine W.seqSkip ?_
  refine W.assoc ?_
  refine W.seqOps Aw ?_
  refine W.seqCond (t := (x4.1.f_Kind != 1)) (by kernel_rfl) h (fun hc h' => ?_) (fun hc h' => ?_)
  ·replace h := h'
   refine W.assoc ?_
   refine W.seqOps Aw ?_
   refine W.seqKeep rfl ?_
   cases h
   exact W.seqRet Fw
  ·replace h := h'
   refine W.seqSkip ?_
   obtain ⟨x6, hx6, h⟩ := bindS h
   refine W.seqOps (Bw 4 (RunR.cons (Tw (chart_Is_ok hx6) tab_nil) (Kw 66 [] (.tup [Vb x6.1, Vi x6.2]) Hw) Aw)) ?_
   refine W.assoc ?_
   obtain ⟨x7, hx7, h⟩ := bindS h
   refine W.seqOps (Bw 1 (RunR.cons (Tw (avail_check_ok hx7) tab_nil) (Kw 65 [] (.pv (eErr 113 x7)) Hw) Aw)) ?_
   refine W.assoc ?_
   refine W.seqOps (Bw 1 (RunR.dyn (Step.isNilT (t := 113) (e := x7) (by kernel_rfl)) ((.nil _)))) ?_
   refine W.seqCond (t := Option.isSome x7) (by kernel_rfl) h (fun hc h' => ?_) (fun hc h' => ?_)
   ·replace h := h'
    refine W.assoc ?_
    refine W.seqOps Aw ?_
    refine W.seqKeep rfl ?_
    cases h
    exact W.seqRet Fw
   ·replace h := h'
    refine W.seqSkip ?_
    refine W.assoc ?_
    refine W.seqOps Aw ?_
    refine W.seqCond (t := !x6.1) (by kernel_rfl) h (fun hc h' => ?_) (fun hc h' => ?_)
    ·replace h := h'
     refine W.assoc ?_
     refine W.seqOps Aw ?_
     refine W.seqKeep rfl ?_
     cases h
     exact W.seqRet Fw
    ·replace h := h'
     refine W.seqSkip ?_
     obtain ⟨x8, hx8, h⟩ := bindS h
     refine W.seqOps (Bw 6 (RunR.cons (Tw (balance_Of_ok hx8) tab_nil) (Kw 67 [] (.tup [Vi x8.1, Vi x8.2]) Hw) Aw)) ?_
     refine W.seqOps Aw ?_
     refine W.assoc ?_
     obtain ⟨x9, hx9, h⟩ := bindS h
     refine W.seqOps (Bw 3 (RunR.cons (Tw (slices_IndexFunc_Limit_Limit_ok hx9) tab_nil) (Step.callG (g := 68) (caps := []) (v := Vi x9) (ins := []) rfl (by kernel_rfl) (by kernel_rfl) (by kernel_rfl) Hw (by kernel_rfl) (by kernel_rfl)) Aw)) ?_
     refine W.assoc ?_
     refine W.seqOps Aw ?_
     obtain ⟨j10, hj10, h⟩ := bindS h
     refine W.join (j := j10) (fun p σ => σ.tidy [] [(6, false), (9, false), (14, false)] [(.loc 14 0, false), (.loc 6 0, false)] [.loc 3 0, .loc 4 0, .loc 8 0] [] = ⟨[(6, .ptr (.loc 6 0) 0), (9, Vi x8.2), (14, .ptr (.loc 14 0) 0)], [(.loc 14 0, .box [Vi x4.1.f_Cur, Vi (IntKind.wrap .i64 (0 - x8.1)), Vi p]), (.loc 6 0, .box [Vi 0, Vi 0, Vi 0])]⟩) ?_ (fun σj10 hsj10 => ?_)
     ·replace h := hj10
      refine W.condI (t := decide (x9 ≥ 0)) (by kernel_rfl) h (fun hc h' => ?_) (fun hc h' => ?_)
      ·replace h := h'
       obtain ⟨x11, hx11, h⟩ := bindS h
       refine W.ops (Bw 3 (RunR.dyn (Iw T_api_Limit.pv t1.f_Limits x9 x11 hx11) Aw)) ?_
       cases h
       exact Jw
      ·replace h := h'
       cases h
       exact W.skip Jw
     ·refine W.seqKeep hsj10 ?_
      obtain ⟨x13, hx13, h⟩ := bindS h
      refine W.seqDraw (Tw (avail_check_ok hx13) tab_nil) (Dw 2 (Run.dyn (Kw 65 [] (.pv (eErr 113 x13)) Hw) Cw)) ?_
      refine W.keep rfl ?_
      cases h
      exact W.ret Fw
theorem avail_whyOf_ok {e : Option Int} {r : Int} (h : avail_whyOf e = some r) : Contract Tryz.prog 29 [.pv (eErr 113 e)] [] ⟨Vi r, [], []⟩ := why_contract (Option.some.inj h).symm
def Q78r0 : List GOp := [o0 2 (.box (.tmp 0)), b0 4 false]
def Q78r1 : List GOp := [t0 5 9 2, o0 6 (.call 0 0 (.cst (.fn 84)) [(.tmp 5)] [] []), m0 7 6, g0 8 7 true (.fld 8 (.tmp 2)), g0 9 7 true (.load false 1 (.tmp 8)), g0 10 7 true (.un .not (.tmp 9)), o0 11 (.pick (.tmp 7) (.tmp 10) (.cst (.bool false))), m0 12 11, g0 13 12 true (.mov (.tmp 1)), g0 14 12 true (.fld 5 (.tmp 2)), g0 15 12 true (.load false 1 (.tmp 14)), g0 16 12 true (.bin false .geq (.tmp 13) (.tmp 15)), o0 17 (.pick (.tmp 12) (.tmp 16) (.cst (.bool false))), m0 18 17, g0 19 18 true (.mov (.tmp 1)), g0 20 18 true (.fld 6 (.tmp 2)), g0 21 18 true (.load false 1 (.tmp 20)), g0 22 18 true (.bin false .leq (.tmp 19) (.tmp 21)), o0 23 (.pick (.tmp 18) (.tmp 22) (.cst (.bool false))), m0 4 23]
def Q78b : AC := (.seq (.ops Q78r0) (.seq (.ops Q78r1) (.keep [] [(4, false)] [] [.loc 2 0] [] .ret)))
def Q78 : Fd := ⟨2, [.tmp 4], [], Q78b⟩
theorem Q78_ag : agreeF Tryz.prog Tryz.f63 Q78 = true := by kernel_rfl
theorem hold_Live_ok {h1 : T_api_Hold} {now2 : Int} {r : Bool} (h : hold_Live h1 now2 = some r) : Contract Tryz.prog 63 [.pv (T_api_Hold.pv h1), .pv (.int .i32 now2)] [] ⟨Vb r, [], []⟩ := by
 refine contract_fin hm Tryz.func63 Q78_ag (by kernel_rfl) ?_
 unfold hold_Live at h
 refine W.seqOps Aw ?_
 obtain ⟨x3, hx3, h⟩ := bindS h
 obtain ⟨c4, hc4, h⟩ := bindS h
 obtain ⟨c5, hc5, h⟩ := bindS h
 refine W.seqOps (Bw 1 (RunR.cons (Tw (hold_right_ok hx3) tab_nil) (Kw 84 [] (Vb x3) Hw) (Bw 1 (RunR.puts 4 [(11, Vb (x3 && (!h1.f_Done))), (10, (Bf x3 (Vb (!h1.f_Done)))), (9, (Bf x3 (Vb h1.f_Done))), (8, (Bf x3 (.ptr (.loc 2 0) 8)))] (by cases x3 <;> kernel_rfl) (RunR.dyn (Nw (x3 && (!h1.f_Done)) c4 hc4) (RunR.puts 5 [(17, Vb (c4 && (decide (now2 ≥ h1.f_Made)))), (16, (Bf c4 (Vb (decide (now2 ≥ h1.f_Made))))), (15, (Bf c4 (.pv (.int .i32 h1.f_Made)))), (14, (Bf c4 (.ptr (.loc 2 0) 5))), (13, (Bf c4 (.pv (.int .i32 now2))))] (by cases c4 <;> kernel_rfl) (RunR.dyn (Nw (c4 && (decide (now2 ≥ h1.f_Made))) c5 hc5) (RunR.puts 5 [(23, Vb (c5 && (decide (now2 ≤ h1.f_Until)))), (22, (Bf c5 (Vb (decide (now2 ≤ h1.f_Until))))), (21, (Bf c5 (.pv (.int .i32 h1.f_Until)))), (20, (Bf c5 (.ptr (.loc 2 0) 6))), (19, (Bf c5 (.pv (.int .i32 now2))))] (by cases c5 <;> kernel_rfl) Aw)))))))) ?_
 refine W.keep rfl ?_
 cases h
 exact W.ret Fw
def Q79r0 : List GOp := [o0 2 (.box (.tmp 0)), k0 4 0]
def Q79r1 : List GOp := [t0 5 9 2, m0 6 1, o0 7 (.call 0 0 (.cst (.fn 63)) [(.tmp 5), (.tmp 6)] [] []), o0 8 (.un .not (.tmp 7))]
def Q79r2 : List GOp := [k0 4 0]
def Q79r3 : List GOp := [f0 9 2 2, f0 10 1 9, l0 11 1 10, f0 12 7 2, l0 13 1 12, p0 14 .sub 11 13, m0 4 14]
def Q79b : AC := (.seq (.ops Q79r0) (.seq (.seq (.ops Q79r1) (.cond (.tmp 8) (.seq (.ops Q79r2) (.keep [] [(4, false)] [] [.loc 2 0] [] .ret)) .skip)) (.seq (.ops Q79r3) (.keep [] [(4, false)] [] [.loc 2 0] [] .ret))))
def Q79 : Fd := ⟨2, [.tmp 4], [], Q79b⟩
theorem Q79_ag : agreeF Tryz.prog Tryz.f27 Q79 = true := by kernel_rfl
theorem hold_Rest_ok {h1 : T_api_Hold} {now2 : Int} {r : Int} (h : hold_Rest h1 now2 = some r) : Contract Tryz.prog 27 [.pv (T_api_Hold.pv h1), .pv (.int .i32 now2)] [] ⟨Vi r, [], []⟩ := by
 refine contract_fin hm Tryz.func27 Q79_ag (by kernel_rfl) ?_
 unfold hold_Rest at h
 refine W.seqOps Aw ?_
 refine W.assoc ?_
 obtain ⟨x3, hx3, h⟩ := bindS h
 refine W.seqOps (Bw 2 (RunR.cons (Tw (hold_Live_ok hx3) tab_nil) (Kw 63 [] (Vb x3) Hw) Aw)) ?_
 refine W.seqCond (t := !x3) (by kernel_rfl) h (fun hc h' => ?_) (fun hc h' => ?_)
 ·replace h := h'
  refine W.assoc ?_
  refine W.seqOps Aw ?_
  refine W.seqKeep rfl ?_
  cases h
  exact W.seqRet Fw
 ·replace h := h'
  refine W.seqSkip ?_
  refine W.seqOps Aw ?_
  refine W.keep rfl ?_
  cases h
  exact W.ret Fw
def qthose_r0 : List GOp := [o0 4 (.box (.tmp 0)), o0 5 (.box (.tmp 1)), o0 6 (.box (.tmp 2)), o0 7 (.box (.tmp 3)), o0 8 (.mov (.cst .nilFn))]
def qthose_r1 : List GOp := [o0 9 (.mkfn 132 [(.tmp 4), (.tmp 5), (.tmp 6), (.tmp 7)]), m0 8 9]
def qthose_b : AC := (.seq (.ops qthose_r0) (.seq (.ops qthose_r1) (.keep [.loc 4 0, .loc 5 0, .loc 6 0, .loc 7 0] [(8, false)] [] [] [] .ret)))
def qthose : Fd := ⟨4, [.tmp 8], [], qthose_b⟩
theorem qthose_ag : agreeF Tryz.prog Tryz.f101 qthose = true := by kernel_rfl
theorem those_bare {l : List PV} {acc cur now : Int} : Contract Tryz.prog 101 [.pv (.slice l), Vi acc, Vi cur, .pv (.int .i32 now)] [] ⟨.fn 132 [.ipv (.agg [.slice l]) 0, .ipv (.agg [.int .i64 acc]) 0, .ipv (.agg [.int .i64 cur]) 0, .ipv (.agg [.int .i32 now]) 0], [], []⟩ := by
 refine contract_fin hm Tryz.func101 qthose_ag (by kernel_rfl) ?_
 refine W.seqOps Aw ?_
 refine W.seqOps Aw ?_
 refine W.keep rfl ?_
 exact W.ret Fw
def it_r0 : List GOp := [l0 8 1 1, e0 9 8, k0 10 0]
def it_r1 : List GOp := [p0 11 .lss 10 9]
def it_r2 : List GOp := [i0 12 9 8 10, t0 13 9 12, o0 7 (.alloc [.pv (.int .i64 0), .pv (.int .i64 0), .pv (.int .i64 0), .pv (.int .i64 0), .pv (.int .i64 0), .pv (.int .i32 0), .pv (.int .i32 0), .pv (.int .i64 0), .pv (.bool false)]), s0 9 7 13]
def it_r3a : List GOp := [f0 14 1 7, l0 15 1 14, l0 16 1 2, p0 17 .eql 15 16, m0 18 17, g0 19 18 true (.fld 2 (.tmp 7)), g0 20 18 true (.fld 0 (.tmp 19)), g0 21 18 true (.load false 1 (.tmp 20)), g0 22 18 true (.load false 1 (.tmp 3)), g0 23 18 true (.bin false .eql (.tmp 21) (.tmp 22)), o0 24 (.pick (.tmp 18) (.tmp 23) (.cst (.bool false))), m0 25 24, g0 26 25 true (.load true 9 (.tmp 7)), g0 27 25 true (.load false 1 (.tmp 4)), g0 28 25 true (.call 0 0 (.cst (.fn 63)) [(.tmp 26), (.tmp 27)] [] []), o0 29 (.pick (.tmp 25) (.tmp 28) (.cst (.bool false))), m0 30 29, g0 31 30 true (.mov (.tmp 0)), g0 32 30 true (.load true 9 (.tmp 7))]
def it_c : List GOp := [g0 33 30 true (.call 0 0 (.tmp 31) [(.tmp 32)] [] [])]
def it_r3b : List GOp := [g0 34 30 true (.un .not (.tmp 33)), o0 35 (.pick (.tmp 30) (.tmp 34) (.cst (.bool false)))]
def it_r4 : List GOp := [q0 36 .add 10 1, m0 10 36]
def it_b : AC := .seq (.ops it_r0) (.block 0 (.loop [] [] (.seq (.ops it_r1) (.seq (.cond (.tmp 11) .skip (.exit 0)) (.seq (.block 1 (.seq (.ops it_r2) (.seq (.ops (it_r3a ++ it_c ++ it_r3b)) (.cond (.tmp 35) .ret .skip)))) (.ops it_r4))))))
def it : Fd := ⟨5, [], [], it_b⟩
theorem it_ag : agreeF Tryz.prog Tryz.f132 it = true := by kernel_rfl
def it_ks : List Nat := [0, 1, 2, 3, 4, 8, 9, 10]
def it_hd (L : Nat) (l : List T_api_Hold) (acc cur now i : Int) : St := ⟨[(0, .pv (.yld L)), (1, .ipv (.agg [.slice (l.map T_api_Hold.pv)]) 0), (2, .ipv (.agg [.int .i64 acc]) 0), (3, .ipv (.agg [.int .i64 cur]) 0), (4, .ipv (.agg [.int .i32 now]) 0),
 (8, .pv (.slice (l.map T_api_Hold.pv))), (9, .pv (.int .i64 (l.length : Int))), (10, .pv (.int .i64 i))], []⟩
def it_hy (L : Nat) (l : List T_api_Hold) (acc cur now i : Int) : St := (⟨(30, .pv (.bool true)) :: (it_hd L l acc cur now i).sl, []⟩ : St).put (some 33) (.pv (.bool true))
section
variable {L : Nat} {l : List T_api_Hold} {acc cur now i : Int} {h : T_api_Hold}
theorem it_start : ∃ σ', RunR Tryz.prog it_r0 (enter [.pv (.yld L), .ipv (.agg [.slice (l.map T_api_Hold.pv)]) 0, .ipv (.agg [.int .i64 acc]) 0, .ipv (.agg [.int .i64 cur]) 0, .ipv (.agg [.int .i32 now]) 0] []) σ' ∧ keepS σ' it_ks = (it_hd L l acc cur now 0).sl ∧ (it_ks.all fun t => (σ'.get t).bare) = true :=
 ⟨_, Bw 1 (RunR.dyn (Lw T_api_Hold.pv l) Aw), by kernel_rfl, by kernel_rfl⟩
def it_s1 (L : Nat) (l : List T_api_Hold) (acc cur now i : Int) : St := (it_hd L l acc cur now i).goes noCl false it_r1
def it_s2 (L : Nat) (l : List T_api_Hold) (acc cur now i : Int) (h : T_api_Hold) : St := ((it_s1 L l acc cur now i).put (some 12) (.ipv (T_api_Hold.pv h) 0)).goes noCl false (it_r2.drop 1)
theorem it_more : RunR Tryz.prog it_r1 (it_hd L l acc cur now i) (it_s1 L l acc cur now i) ∧ (it_s1 L l acc cur now i).ev (.tmp 11) = Vb (decide (i < (l.length : Int))) :=
 ⟨RunR.all (by kernel_rfl), by kernel_rfl⟩
theorem it_elem (he : rdO l i = some h) : RunR Tryz.prog it_r2 (it_s1 L l acc cur now i) (it_s2 L l acc cur now i h) :=
 RunR.dyn (Step.idxT (f := T_api_Hold.pv) (l := l) (k := .i64) (by kernel_rfl) (by kernel_rfl) he (by kernel_rfl)) Aw
theorem it_no (hs : selO acc cur now h = some false) (hb : IntKind.wrap .i64 (i + 1) = i + 1) : ∃ σ3 σ4, RunR Tryz.prog (it_r3a ++ it_c ++ it_r3b) (it_s2 L l acc cur now i h) σ3 ∧ σ3.ev (.tmp 35) = Vb false ∧ RunR Tryz.prog it_r4 σ3 σ4 ∧ keepS σ4 it_ks = (it_hd L l acc cur now (i + 1)).sl ∧ (it_ks.all fun t => (σ4.get t).bare) = true := by
 unfold selO at hs
 cases hc1 : (h.f_Acc == acc) with
 | false =>
  have hc1 : some (h.f_Acc == acc) = some false := by rw [hc1]
  refine ⟨_, _, Bw 4 (RunR.cons noCl_sound (Step.name (f := PV.bool) (e := h.f_Acc == acc) (c := false) (by kernel_rfl) hc1) Aw), by kernel_rfl, RunR.all (by kernel_rfl), ?_, by kernel_rfl⟩
  rw [← hb]; kernel_rfl
 | true =>
  rw [hc1, if_pos rfl] at hs
  have hc1 : some (h.f_Acc == acc) = some true := by rw [hc1]
  cases hc2 : (h.f_Amount.f_Cur == cur) with
  | false =>
   have hc2 : some (h.f_Amount.f_Cur == cur) = some false := by rw [hc2]
   refine ⟨_, _, Bw 4 (RunR.cons noCl_sound (Step.name (f := PV.bool) (e := h.f_Acc == acc) (c := true) (by kernel_rfl) hc1) (Bw 6 (RunR.cons noCl_sound (Step.name (f := PV.bool) (e := h.f_Amount.f_Cur == cur) (c := false) (by kernel_rfl) hc2) Aw))), by kernel_rfl, RunR.all (by kernel_rfl), ?_, by kernel_rfl⟩
   rw [← hb]; kernel_rfl
  | true =>
   rw [hc2, if_pos rfl] at hs
   have hc2 : some (h.f_Amount.f_Cur == cur) = some true := by rw [hc2]
   refine ⟨_, _, Bw 4 (RunR.cons noCl_sound (Step.name (f := PV.bool) (e := h.f_Acc == acc) (c := true) (by kernel_rfl) hc1) (Bw 6 (RunR.cons noCl_sound (Step.name (f := PV.bool) (e := h.f_Amount.f_Cur == cur) (c := true) (by kernel_rfl) hc2) (Bw 2
    (RunR.cons (Tw (hold_Live_ok hs) tab_nil) (Step.gdG (v := Vb false) true rfl (.inr ⟨rfl, by kernel_rfl, Kw 63 [] (Vb false) Hw⟩)) Aw))))), by kernel_rfl, RunR.all (by kernel_rfl), ?_, by kernel_rfl⟩
   rw [← hb]; kernel_rfl
theorem it_yes (hs : selO acc cur now h = some true) : ∃ σ3, RunR Tryz.prog it_r3a (it_s2 L l acc cur now i h) σ3 ∧ σ3.wants (some (30, true)) = some true ∧ σ3.ev (.tmp 31) = .pv (.yld L) ∧ σ3.ev (.tmp 32) = .pv (T_api_Hold.pv h) ∧
  keepS σ3 (30 :: it_ks) = (30, Vb true) :: (it_hd L l acc cur now i).sl ∧ ((30 :: it_ks).all fun t => (σ3.get t).bare) = true := by
 unfold selO at hs
 cases hc1 : (h.f_Acc == acc) with
 | false => rw [hc1] at hs; cases hs
 | true =>
  rw [hc1, if_pos rfl] at hs
  have hc1 : some (h.f_Acc == acc) = some true := by rw [hc1]
  cases hc2 : (h.f_Amount.f_Cur == cur) with
  | false => rw [hc2] at hs; cases hs
  | true =>
   rw [hc2, if_pos rfl] at hs
   have hc2 : some (h.f_Amount.f_Cur == cur) = some true := by rw [hc2]
   exact ⟨_, Bw 4 (RunR.cons noCl_sound (Step.name (f := PV.bool) (e := h.f_Acc == acc) (c := true) (by kernel_rfl) hc1) (Bw 6 (RunR.cons noCl_sound (Step.name (f := PV.bool) (e := h.f_Amount.f_Cur == cur) (c := true) (by kernel_rfl) hc2) (Bw 2
    (RunR.cons (Tw (hold_Live_ok hs) tab_nil) (Step.gdG (v := Vb true) true rfl (.inr ⟨rfl, by kernel_rfl, Kw 63 [] (Vb true) Hw⟩)) Aw))))), by kernel_rfl, by kernel_rfl, by kernel_rfl, by kernel_rfl, by kernel_rfl⟩
theorem it_back (hb : IntKind.wrap .i64 (i + 1) = i + 1) : ∃ σ3 σ4, RunR Tryz.prog it_r3b (it_hy L l acc cur now i) σ3 ∧ σ3.ev (.tmp 35) = Vb false ∧ RunR Tryz.prog it_r4 σ3 σ4 ∧ keepS σ4 it_ks = (it_hd L l acc cur now (i + 1)).sl ∧ (it_ks.all fun t => (σ4.get t).bare) = true := by
 refine ⟨_, _, RunR.all (by kernel_rfl), by kernel_rfl, RunR.all (by kernel_rfl), ?_, by kernel_rfl⟩
 rw [← hb]; kernel_rfl
end
def it_rd : AC := .seq (.ops it_r1) (.seq (.cond (.tmp 11) .skip (.exit 0)) (.seq (.block 1 (.seq (.ops it_r2) (.seq (.ops (it_r3a ++ it_c ++ it_r3b)) (.cond (.tmp 35) .ret .skip)))) (.ops it_r4)))
theorem rdO_mid {α : Type} (pre : List α) (x : α) (t : List α) : rdO (pre ++ x :: t) (pre.length : Int) = some x := by
 unfold rdO
 rw [if_pos (by omega)]
 simp
theorem yieldAt_mono {P : Program} {l : Nat} {vs : Array Value} {w : World} {R R' : Ending → World → Prop} (h : YieldAt Fence.wide 0 P l vs w R) (hR : ∀ e w', R e w' → R' e w') : YieldAt Fence.wide 0 P l vs w R' := by
 obtain ⟨fn, tmps, x, y, h1, h2⟩ := h
 exact ⟨fn, tmps, x, y, h1, h2.mono hR⟩
section
variable {L : Nat} {l r : List T_api_Hold} {acc cur now : Int} {J : Nat → (Nat → Prop) → World → Prop} {γ : Nat → Blk} {nt : Nat}
theorem it_loop (hnt : 33 < nt) (hlen : (l.length : Int) < 4611686018427387904)
  (hg : ∀ i Z W W', J i Z W → W.grownBy W' none → J i (fun b => Z b ∨ (W.heap.size ≤ b ∧ b < W'.heap.size)) W')
  (hy : ∀ (i : Nat) (Z : Nat → Prop) (x : PV) (v : Value) (W : World), (r.map T_api_Hold.pv)[i]? = some x → Lies W (fun _ => False) x v → J i Z W →
   YieldAt Fence.wide 0 Tryz.prog L #[v] W fun e W' => e = .returned (.bool true) ∧ J (i + 1) Z W' ∧ W.heap.size ≤ W'.heap.size ∧ ∀ b, Z b → W'.heap[b]? = W.heap[b]?)
  {Q : Exit → Act → World → Prop} {c : Code} (hc : agreeCode Tryz.prog nt c it_rd = true)
  (hQ : ∀ (C : Ctx) (β : Key → Blk) (σ : St) (a : Act) (w : World) (Z : Nat → Prop), C.nt = nt → C.ext = [] → C.dfs = [] → RR C β σ a w → J r.length Z w → Q (.exit 0) a w) :
  ∀ (rest pre r' pk : List T_api_Hold) (Z : Nat → Prop) (W : World) (a : Act) (β : Key → Blk), pre ++ rest = l → itO acc cur now rest = some r' → pk ++ r' = r → (∀ b, Z b → b < W.heap.size) → J pk.length Z W →
   RR ⟨W, [], γ, nt, Z, []⟩ β (it_hd L l acc cur now (pre.length : Int)) a W → Lp none 0 Tryz.prog c Q a W := by
 intro rest
 induction rest with
 | nil =>
  intro pre r' pk Z W a β hl hr hp hZ hJ h
  cases hr
  rw [List.append_nil] at hl hp
  subst hl; subst hp
  refine lp_round ?_
  have hb : (it_s1 L pre acc cur now (pre.length : Int)).ev (.tmp 11) = Vb false := by
   rw [(it_more (L := L) (l := pre) (acc := acc) (cur := cur) (now := now)).2]; simp
  have hev : Ev Tryz.prog it_rd (it_hd L pre acc cur now (pre.length : Int)) (.exit 0) (it_s1 L pre acc cur now (pre.length : Int)) :=
   .seq (.ops it_more.1) (.seq_out (.cond hb (.exit 0 _)) (by simp))
  refine (ev_sound (C := ⟨W, [], γ, nt, Z, []⟩) hm hev c β a W _ hc h (fun β' a' w' h' => ?_)).1
  exact hQ _ _ _ _ _ _ rfl rfl rfl h' (hg _ _ _ _ hJ h'.away)
 | cons x t ih =>
  intro pre r' pk Z W a β hl hr hp hZ hJ h
  subst hl
  have hi : decide ((pre.length : Int) < ((pre ++ x :: t).length : Int)) = true := by
   rw [decide_eq_true_iff]; simp only [List.length_append, List.length_cons]; omega
  have hw : IntKind.wrap .i64 ((pre.length : Int) + 1) = (pre.length : Int) + 1 := by
   have : (pre.length : Int) < 4611686018427387904 := by simp only [List.length_append, List.length_cons] at hlen; omega
   rw [IntKind.wrap_i64]; omega
  have hb : (it_s1 L (pre ++ x :: t) acc cur now (pre.length : Int)).ev (.tmp 11) = Vb true := by
   rw [(it_more (L := L) (l := pre ++ x :: t) (acc := acc) (cur := cur) (now := now)).2, hi]
  have he : rdO (pre ++ x :: t) (pre.length : Int) = some x := rdO_mid pre x t
  have hnx : ((pre ++ [x]).length : Int) = (pre.length : Int) + 1 := by simp
  simp only [itO, Option.bind_eq_some_iff, Option.map_eq_some_iff] at hr
  obtain ⟨b, hs, r1, hr1, hrr⟩ := hr
  refine lp_round ?_
  cases b with
  | false =>
   simp only [cond_false] at hrr
   subst hrr
   obtain ⟨σ3, σ4, q1, q2, q3, q4, q5⟩ := it_no (L := L) (l := pre ++ x :: t) (i := (pre.length : Int)) hs hw
   have hev : Ev Tryz.prog it_rd (it_hd L (pre ++ x :: t) acc cur now (pre.length : Int)) .norm σ4 :=
    .seq (.ops it_more.1) (.seq (.cond hb (.skip _)) (.seq (.block (.seq (.ops (it_elem he)) (.seq (.ops q1) (.cond q2 (.skip _))))) (.ops q3)))
   refine (ev_sound (C := ⟨W, [], γ, nt, Z, []⟩) hm hev c β a W _ hc h (fun β' a' w' h' => ?_)).1
   have h2 := h'.anew hZ it_ks q5 (W' := w') (fun b _ => rfl) (Nat.le_refl _)
   rw [q4, ← hnx] at h2
   refine ih (pre ++ [x]) r1 pk _ w' a' β' (by simp) hr1 hp (fun b hb => ?_) (hg _ _ _ _ hJ h'.away) h2
   rcases hb with q | q
   ·have := hZ b q; have := h'.size; simp at this; omega
   ·exact q.2
  | true =>
   simp only [cond_true] at hrr
   subst hrr
   obtain ⟨σ3, q1, q2, q3, q4, q5, q6⟩ := it_yes (L := L) (l := pre ++ x :: t) (i := (pre.length : Int)) hs
   obtain ⟨σ4, σ5, p1, p2, p3, p4, p5⟩ := it_back (L := L) (l := pre ++ x :: t) (acc := acc) (cur := cur) (now := now) hw
   obtain ⟨c1, c2, rfl, g1, g2⟩ := ag_seq hc
   obtain ⟨c3, c4, rfl, g3, g4⟩ := ag_seq g2
   obtain ⟨c5, c6, rfl, g5, g6⟩ := ag_seq g4
   obtain ⟨c7, rfl, g7⟩ := ag_block g5
   obtain ⟨c8, c9, rfl, g8, g9⟩ := ag_seq g7
   obtain ⟨c10, c11, rfl, g10, g11⟩ := ag_seq g9
   obtain ⟨id, ops, rfl, g12⟩ := ag_ops g10
   refine wpIn_seq ((ev_sound (C := ⟨W, [], γ, nt, Z, []⟩) hm (.ops it_more.1) c1 β a W _ g1 h (fun β1 a1 w1 h1 => ?_)).1)
   refine wpIn_seq ((ev_sound (C := ⟨W, [], γ, nt, Z, []⟩) hm (.cond hb (.skip _)) c3 β1 a1 w1 _ g3 h1 (fun β1 a1 w1 h1 => ?_)).1)
   refine wpIn_seq (wpIn_block ?_)
   refine wpIn_seq ((ev_sound (C := ⟨W, [], γ, nt, Z, []⟩) hm (.ops (it_elem he)) c8 β1 a1 w1 _ g8 h1 (fun β1 a1 w1 h1 => ?_)).1)
   refine wpIn_seq (wpIn_region_list ?_)
   obtain ⟨la, lb, hab, ga, gb⟩ := all2_app g12
   obtain ⟨la1, la2, hab2, ga1, ga2⟩ := all2_app ga
   subst hab2
   rw [hab, List.append_assoc]
   refine sound_opsA q1 h1 ga1 (fun β2 a2 w2 h2 => ?_)
   cases la2 with
   | nil => simp [it_c, all2] at ga2
   | cons o la3 =>
    cases la3 with
    | cons _ _ => simp [it_c, all2] at ga2
    | nil =>
     simp only [it_c, all2, Bool.and_true] at ga2
     refine sound_yield (rest := lb) h2 ga2 rfl q2 q3 (fun v hv => ?_)
     rw [q4] at hv
     have hlv : Lies w2 (fun _ => False) (T_api_Hold.pv x) v := scalar_lies (slies_pv hv) (by kernel_rfl)
     have hJ2 := hg _ _ _ _ hJ h2.away
     have hxk : (r.map T_api_Hold.pv)[pk.length]? = some (T_api_Hold.pv x) := by rw [← hp]; simp
     refine yieldAt_mono (hy pk.length _ _ v w2 hxk hlv hJ2) ?_
     rintro e W3 ⟨rfl, hJ3, hsz3, hk3⟩
     refine ⟨_, rfl, ?_⟩
     have h3 := h2.anew hZ (30 :: it_ks) q6 (W' := W3) (fun b hb => hk3 b hb) hsz3
     rw [q5] at h3
     have h4 := h3.put (some 33) (Vb true) (.bool true) (fun i hi => by cases hi; exact hnt) (.pv _ _ (.bool _))
     refine sound_opsR p1 h4 gb (fun β5 a5 w5 h5 => ?_)
     refine (ev_sound (C := ⟨W3, [], γ, nt, more Z W w2, []⟩) hm (.cond p2 (.skip _)) c11 β5 a5 w5 _ g11 h5 (fun β6 a6 w6 h6 => ?_)).1
     refine (ev_sound (C := ⟨W3, [], γ, nt, more Z W w2, []⟩) hm (.ops p3) c6 β6 a6 w6 _ g6 h6 (fun β7 a7 w7 h7 => ?_)).1
     have hZ2 : ∀ b, more Z W w2 b → b < W3.heap.size := fun b hb => by
      rcases hb with q | q
      ·have := hZ b q; have := h2.size; simp at this; omega
      ·omega
     have h8 := h7.anew hZ2 it_ks p5 (W' := w7) (fun b _ => rfl) (Nat.le_refl _)
     rw [p4, ← hnx] at h8
     refine ih (pre ++ [x]) r1 (pk ++ [x]) _ w7 a7 β7 (by simp) hr1 (by simp [← hp]) (fun b hb => ?_) ?_ h8
     ·rcases hb with q | q
      ·have := hZ2 b q; have := h7.size; simp at this; omega
      ·exact q.2
     ·rw [List.length_append]
      exact hg _ _ _ _ hJ3 h7.away
end
theorem it_iter {l r : List T_api_Hold} {acc cur now : Int} (hlen : (l.length : Int) < 4611686018427387904) (hr : itO acc cur now l = some r) :
  IterC Tryz.prog 132 [.ipv (.agg [.slice (l.map T_api_Hold.pv)]) 0, .ipv (.agg [.int .i64 acc]) 0, .ipv (.agg [.int .i64 cur]) 0, .ipv (.agg [.int .i32 now]) 0] (r.map T_api_Hold.pv) := by
 have hag := it_ag
 simp only [agreeF, Bool.and_eq_true, decide_eq_true_eq, Bool.not_eq_true'] at hag
 obtain ⟨⟨⟨⟨h1, h2⟩, h5⟩, h3⟩, h4⟩ := hag
 obtain ⟨c, hc⟩ : ∃ c, Tryz.f132.body = some c := ⟨_, rfl⟩
 rw [hc] at h4
 refine ⟨fun args w => ?_, ?_⟩
 ·simp only [callFunc, Sem.run_bind, run_program, Result.andThen_ok, Tryz.func132, hc, h2, Option.isNone, Bool.false_eq_true, if_false, Sem.run_pure]
 ·intro L lb w Z0 J hZ hGk hcl hlb hg hy hJ
  have harr : (#[Value.func (.yield L) #[] #[]] ++ lb.toArray) = (Value.func (.yield L) #[] #[] :: lb).toArray := by apply Array.ext'; simp
  rw [harr]
  refine (callsIn_wide (n := 0)).2 (calls_of_wp Tryz.func132 hc (wpIn_wide (n := 0).1 ?_))
  show Code.wpIn (fr none) 0 Tryz.prog _ _ _ _
  have h0 := enter_rr (w := w) (vs := Value.func (.yield L) #[] #[] :: lb) (γ := fun _ => ⟨none, 0⟩) (ok := Z0) (args := [.pv (.yld L), .ipv (.agg [.slice (l.map T_api_Hold.pv)]) 0, .ipv (.agg [.int .i64 acc]) 0, .ipv (.agg [.int .i64 cur]) 0, .ipv (.agg [.int .i32 now]) 0]) (ext := []) (nt := Tryz.f132.ntmps)
   (fun b hb => ⟨hZ b hb, fun i hi => absurd hi (by simp)⟩) hGk (fun i j b hi => absurd hi (by simp)) (fun i o ho => by simp at ho) (by simp only [List.length_cons, ← hcl]) (fun j x v hx hv => ?_) (show 5 ≤ Tryz.f132.ntmps by decide)
  ·obtain ⟨c1, c2, rfl, g1, g2⟩ := ag_seq h4
   obtain ⟨c3, rfl, g3⟩ := ag_block g2
   obtain ⟨c4, rfl, g4⟩ := ag_loop g3
   obtain ⟨σ1, q1, q2, q3⟩ := it_start (L := L) (l := l) (acc := acc) (cur := cur) (now := now)
   refine wpIn_seq ((ev_sound (C := ⟨w, [], fun _ => ⟨none, 0⟩, Tryz.f132.ntmps, Z0, []⟩) hm (.ops q1) c1 _ _ w _ g1 h0 (fun β1 a1 w1 h1 => ?_)).1)
   refine wpIn_block (wp_lp ?_)
   have h2 := h1.anew hZ it_ks q3 (W' := w1) (fun b _ => rfl) (Nat.le_refl _)
   rw [q2] at h2
   refine it_loop (by decide) hlen hg hy g4 (fun C β σ a w Z hn he hd h hJ => ?_) l [] r [] _ w1 a1 β1 rfl hr rfl (fun b hb => ?_) (hg _ _ _ _ hJ h1.away) h2
   ·obtain ⟨v, δ, hv, _⟩ := leave_sound (P := Tryz.prog) (cl := noCl) (fd := it) (fn := Tryz.f132) (r := ⟨.tup [], [], (List.range C.ext.length).map fun i => (σ.look (.ext i)).map (HObj.nm (toR it.out))⟩) h h3 (by decide) (by intro k hk; cases hk) rfl
    exact ⟨by rw [h.dfs, hd], v, hv, ⟨v, rfl⟩, Z, by simpa using hJ⟩
   ·rcases hb with q | q
    ·have := hZ b q; have := h1.size; simp at this; omega
    ·exact q.2
  ·cases j with
   | zero =>
    simp only [List.getElem?_cons_zero, Option.some.injEq] at hx hv
    subst hx; subst hv
    exact .pv _ _ (.yld _)
   | succ j =>
    simp only [List.getElem?_cons_succ] at hx hv
    refine (hlb j x v hx hv).mono' (fun b _ off u hu => hu) (fun b hb => hb) (fun k o hk hl => by cases hl)
theorem hold_those_iter {l r : List T_api_Hold} {acc cur now : Int} (h : hold_those l acc cur now = some r) :
  IterC Tryz.prog 132 [.ipv (.agg [.slice (l.map T_api_Hold.pv)]) 0, .ipv (.agg [.int .i64 acc]) 0, .ipv (.agg [.int .i64 cur]) 0, .ipv (.agg [.int .i32 now]) 0] (r.map T_api_Hold.pv) := by
 unfold hold_those at h
 split at h
 ·exact it_iter ‹_› h
 ·cases h
def sum_r0 : List GOp := [o0 8 (.box (.tmp 3)), o0 9 (.box (.tmp 4)), k0 10 0, k0 11 0]
def sum_r1 : List GOp := [m0 15 0, o0 16 (.call 0 0 (.cst (.fn 35)) [(.tmp 15)] [] []), m0 12 16]
def sum_r2 : List GOp := [m0 17 12, q0 18 .neq 17 0]
def sum_r3 : List GOp := [m0 19 12, k0 10 0, m0 11 19]
def sum_r4 : List GOp := [o0 13 (.alloc [.pv (.int .i64 0)]), n0 (.store 1 (.tmp 13) (.cst (.int .i64 0)))]
def sum_r5 : List GOp := [m0 20 0, m0 21 1, m0 22 2, l0 23 1 8, o0 24 (.call 1 0 (.cst (.fn 101)) [(.tmp 20), (.tmp 21), (.tmp 22), (.tmp 23)] [] [])]
def sum_r6 : List GOp := [o0 14 (.alloc [.pv (.int .i64 0), .pv (.int .i64 0), .pv (.int .i64 0), .pv (.int .i64 0), .pv (.int .i64 0), .pv (.int .i32 0), .pv (.int .i32 0), .pv (.int .i64 0), .pv (.bool false)]), s0 9 14 25]
def sum_r7 : List GOp := [f0 26 4 14, l0 27 1 26, l0 28 1 9, p0 29 .geq 27 28]
def sum_r8 : List GOp := [l0 30 1 13, t0 31 9 14, l0 32 1 8, o0 33 (.call 0 0 (.cst (.fn 27)) [(.tmp 31), (.tmp 32)] [] []), p0 34 .add 30 33, s0 1 13 34]
def sum_r9 : List GOp := [l0 35 1 13, m0 10 35, k0 11 0]
def sum_b : AC := .block 1 (.seq (.ops sum_r7) (.cond (.tmp 29) (.draw [] sum_r8) .skip))
def sum_x : AX := .seq (.ev (.ops sum_r0)) (.seq (.seq (.ev (.ops sum_r1)) (.ev (.seq (.ops sum_r2) (.cond (.tmp 18) (.seq (.ops sum_r3) .ret) .skip)))) (.seq (.ev (.ops sum_r4)) (.seq (.seq (.ev (.ops sum_r5))
 (.block (.keep [] [(8, false), (9, false), (13, false), (24, false)] [(.loc 8 0, false), (.loc 9 0, false), (.loc 13 0, false)] [] [] (.range (.tmp 24) 25 (.ops sum_r6) sum_b)))) (.ev (.seq (.ops sum_r9) .ret)))))
theorem sum_ag : agreeFX Tryz.prog Tryz.f71 5 [.tmp 10, .tmp 11] [] sum_x = true := by kernel_rfl
def sum_T (l : List T_api_Hold) (acc cur now rank n : Int) : St := ⟨[(8, .ptr (.loc 8 0) 0), (9, .ptr (.loc 9 0) 0), (13, .ptr (.loc 13 0) 0), (24, .fn 132 [.ipv (.agg [.slice (l.map T_api_Hold.pv)]) 0, .ipv (.agg [.int .i64 acc]) 0, .ipv (.agg [.int .i64 cur]) 0, .ipv (.agg [.int .i32 now]) 0])],
 [(.loc 8 0, .box [.pv (.int .i32 now)]), (.loc 9 0, .box [.pv (.int .i64 rank)]), (.loc 13 0, .box [.pv (.int .i64 n)])]⟩
theorem sum_round {l : List T_api_Hold} {acc cur now rank n n' : Int} {x : T_api_Hold} (h : sumStep now rank n x = some n') : RoundE Tryz.prog 25 (.ops sum_r6) sum_b (T_api_Hold.pv x) (sum_T l acc cur now rank n) (sum_T l acc cur now rank n') := by
 unfold sumStep at h
 cases hc : decide (x.f_Rank ≥ rank) with
 | false =>
  rw [hc] at h
  simp only [Bool.false_eq_true, if_false, Option.some.injEq] at h
  subst h
  exact ⟨⟨[.loc 8 0, .loc 9 0, .loc 13 0], [8, 9, 13], [.box [.pv (.int .i32 now)], .box [Vi rank], .box [Vi n]], _, _, [], ⟨.tup [], [], [some (.box [.pv (.int .i32 now)]), some (.box [Vi rank]), some (.box [Vi n])]⟩, 200, 0, ⟨.tup [], []⟩, sum_T l acc cur now rank n, by kernel_rfl, by decide, .ops Aw, .block (.seq (.ops Aw) (.cond (t := false) (Eq.trans (b := Vb (decide (x.f_Rank ≥ rank))) (by kernel_rfl) (by rw [hc])) (.skip _))), by decide, by simp, by kernel_rfl, by kernel_rfl, by kernel_rfl, by simp, by kernel_rfl⟩⟩
 | true =>
  rw [hc, if_pos rfl] at h
  simp only [Option.bind_eq_some_iff, Option.some.injEq] at h
  obtain ⟨r, hr, rfl⟩ := h
  exact ⟨⟨[.loc 8 0, .loc 9 0, .loc 13 0], [8, 9, 13], [.box [.pv (.int .i32 now)], .box [Vi rank], .box [Vi n]], _, _, [], ⟨.tup [], [], [some (.box [.pv (.int .i32 now)]), some (.box [Vi rank]), some (.box [Vi (IntKind.wrap .i64 (n + r))])]⟩, 200, 0, ⟨.tup [], []⟩, sum_T l acc cur now rank (IntKind.wrap .i64 (n + r)), by kernel_rfl, by decide, .ops Aw, .block (.seq (.ops Aw) (.cond (t := true) (Eq.trans (b := Vb (decide (x.f_Rank ≥ rank))) (by kernel_rfl) (by rw [hc]))
   (.draw (Tw (hold_Rest_ok hr) tab_nil) (Dw 3 (Run.dyn (Kw 27 [] (Vi r) Hw) Cw))))), by decide, by simp, by kernel_rfl, by kernel_rfl, by kernel_rfl, by simp, by kernel_rfl⟩⟩
theorem hold_Sum_ok {l1 : List T_api_Hold} {acc2 cur3 now4 rank5 : Int} {r : Int × Int} (h : hold_Sum l1 acc2 cur3 now4 rank5 = some r) :
  Contract Tryz.prog 71 [Vl T_api_Hold.pv l1, Vi acc2, Vi cur3, .pv (.int .i32 now4), Vi rank5] [] ⟨.tup [Vi r.1, Vi r.2], [], []⟩ := by
 unfold hold_Sum at h
 obtain ⟨e, he, h⟩ := bindS h
 cases hc : (e != 0) with
 | true =>
  rw [hc, if_pos rfl] at h
  cases h
  refine contract_evx hm Tryz.func71 sum_ag (by kernel_rfl) (EvX.seq (.ev (.ops Aw)) (.seq_out (.seq (.ev (.ops (Bw 1 (RunR.cons (Tw (hold_Check_ok he) tab_nil) (Kw 35 [] (Vi e) Hw) Aw))))
   (.ev (.seq (.ops Aw) (.cond (t := true) (Eq.trans (b := Vb (e != 0)) (by kernel_rfl) (by rw [hc])) (.seq (.ops Aw) (.ret _)))))) (by simp))) (.inr rfl) (by kernel_rfl)
 | false =>
  rw [hc] at h
  simp only [Bool.false_eq_true, if_false] at h
  obtain ⟨q, hq, h⟩ := bindS h
  obtain ⟨n, hn, h⟩ := bindS h
  cases h
  refine contract_evx hm Tryz.func71 sum_ag (by kernel_rfl) (EvX.seq (.ev (.ops Aw)) (.seq (.seq (.ev (.ops (Bw 1 (RunR.cons (Tw (hold_Check_ok he) tab_nil) (Kw 35 [] (Vi e) Hw) Aw))))
   (.ev (.seq (.ops Aw) (.cond (t := false) (Eq.trans (b := Vb (e != 0)) (by kernel_rfl) (by rw [hc])) (.skip _))))) (.seq (.ev (.ops Aw)) (.seqM (.seq (.ev (.ops (Bw 4 (RunR.cons (Tw (those_bare (l := List.map T_api_Hold.pv l1) (acc := acc2) (cur := cur3) (now := now4)) tab_nil) (Step.callS (g := 101) (ins := []) (caps := []) (v := .fn 132 [.ipv (.agg [.slice (l1.map T_api_Hold.pv)]) 0, .ipv (.agg [.int .i64 acc2]) 0, .ipv (.agg [.int .i64 cur3]) 0, .ipv (.agg [.int .i32 now4]) 0]) (by kernel_rfl) (by kernel_rfl) (by kernel_rfl) Hw (by kernel_rfl)) (.nil _)))))
    (.block (.keepE (σ1 := sum_T l1 acc2 cur3 now4 rank5 0) (by kernel_rfl) (?_ : EvX _ _ _ _ .norm (sum_T l1 acc2 cur3 now4 rank5 n) true)) (by simp))) (.seq (.ops Aw) (.ret _)) (by kernel_rfl))))) (.inr rfl) (by kernel_rfl)
  have := EvX.rangeO (P := Tryz.prog) (ne := 0) (g := .tmp 24) (p := 25) (a := .ops sum_r6) (b := sum_b) (enc := T_api_Hold.pv) (l := q) (fun _ n => sum_T l1 acc2 cur3 now4 rank5 n) hn rfl (by intro x hx; simp only [List.mem_cons, List.not_mem_nil, or_false] at hx; rcases hx with rfl | rfl | rfl | rfl <;> rfl) (fun x => by kernel_rfl) (hold_those_iter hq) (fun i s x s1 hs => sum_round hs) (fun i s => by kernel_rfl)
  exact this
def apq_r0 : List GOp := [o0 2 (.box (.tmp 0)), o0 4 (.mov .nils)]
def apq_r1 : List GOp := [m0 6 1]
def apq_r2 : List GOp := [o0 5 (.alloc [.pv (.int .i64 0), .pv (.int .i64 0), .pv (.int .i64 0), .pv (.int .i64 0), .pv (.int .i64 0), .pv (.int .i32 0), .pv (.int .i32 0), .pv (.int .i64 0), .pv (.bool false)]), s0 9 5 7]
def apq_r3 : List GOp := [l0 8 1 2, t0 9 9 5, o0 10 (.lit false 9 [(.tmp 9)]), o0 11 (.append 11 9 64 (.tmp 8) (.tmp 10)), s0 1 2 11]
def apq_r4 : List GOp := [l0 12 1 2, m0 4 12]
def apq_x : AX := .seq (.ev (.ops apq_r0)) (.seq (.seq (.ev (.ops apq_r1)) (.block (.keep [] [(2, false), (6, false)] [] [] [.cell (.loc 2 0) 0 (.loc 100 0) 9] (.range (.tmp 6) 7 (.ops apq_r2) (.block 1 (.ops apq_r3)))))) (.ev (.seq (.ops apq_r4) .ret)))
def apq_d (b : Bool) : Nat := bif b then 100 else 101
theorem apq_ag (b : Bool) : agreeFX Tryz.prog Tryz.f131 2 [.tmp 4] [.loc (apq_d b) 0] apq_x = true := by cases b <;> kernel_rfl
def apq_caps (l : List T_api_Hold) (acc cur now : Int) : List SV := [.ipv (.agg [.slice (l.map T_api_Hold.pv)]) 0, .ipv (.agg [.int .i64 acc]) 0, .ipv (.agg [.int .i64 cur]) 0, .ipv (.agg [.int .i32 now]) 0]
def apq_T (l : List T_api_Hold) (acc cur now : Int) (b : Bool) (s : List T_api_Hold) : St := ⟨[(2, .ptr (.loc 2 0) 0), (6, .fn 132 (apq_caps l acc cur now))], [(.loc (apq_d b) 0, .row 9 (s.map T_api_Hold.pv)), (.loc 2 0, .box [.own (.loc (apq_d b) 0)])]⟩
theorem apq_round {l : List T_api_Hold} {acc cur now : Int} {b : Bool} {s s1 : List T_api_Hold} {x : T_api_Hold} (h : apO 64 s [x] = some s1) : RoundE Tryz.prog 7 (.ops apq_r2) (.block 1 (.ops apq_r3)) (T_api_Hold.pv x) (apq_T l acc cur now b s) (apq_T l acc cur now (!b) s1) := by
 cases b with
 | true =>
  exact ⟨⟨[.loc 2 0, .loc 100 0], [2], [.box [.own (.ext 1)], .row 9 (s.map T_api_Hold.pv)], _, _, [.loc 11 0], ⟨.tup [], [some (.row 9 (s1.map T_api_Hold.pv))], [some (.box [.own (.res 0)]), none]⟩, 101, 1, ⟨.tup [], [(.loc 101 0, .row 9 (s1.map T_api_Hold.pv))]⟩, ⟨[(2, .ptr (.loc 2 0) 0), (6, .fn 132 (apq_caps l acc cur now))], [(.loc 2 0, .box [.own (.loc 101 0)])]⟩, by kernel_rfl, by decide, .ops Aw, .block (.ops (Bw 3 (RunR.dyn (Step.appendOwnT (k := .ext 1) (f := T_api_Hold.pv) (l := s) (m := [x]) (by kernel_rfl) (by kernel_rfl) (by kernel_rfl) h (fun _ => rfl) (by kernel_rfl)) Aw))), by decide, by simp, by kernel_rfl, by kernel_rfl, by kernel_rfl, (fun j hj => by cases j with | zero => rfl | succ j => omega), by kernel_rfl⟩⟩
 | false =>
  exact ⟨⟨[.loc 2 0, .loc 101 0], [2], [.box [.own (.ext 1)], .row 9 (s.map T_api_Hold.pv)], _, _, [.loc 11 0], ⟨.tup [], [some (.row 9 (s1.map T_api_Hold.pv))], [some (.box [.own (.res 0)]), none]⟩, 100, 1, ⟨.tup [], [(.loc 100 0, .row 9 (s1.map T_api_Hold.pv))]⟩, ⟨[(2, .ptr (.loc 2 0) 0), (6, .fn 132 (apq_caps l acc cur now))], [(.loc 2 0, .box [.own (.loc 100 0)])]⟩, by kernel_rfl, by decide, .ops Aw, .block (.ops (Bw 3 (RunR.dyn (Step.appendOwnT (k := .ext 1) (f := T_api_Hold.pv) (l := s) (m := [x]) (by kernel_rfl) (by kernel_rfl) (by kernel_rfl) h (fun _ => rfl) (by kernel_rfl)) Aw))), by decide, by simp, by kernel_rfl, by kernel_rfl, by kernel_rfl, (fun j hj => by cases j with | zero => rfl | succ j => omega), by kernel_rfl⟩⟩
theorem apq_ok {l q r : List T_api_Hold} {acc cur now : Int} (hq : hold_those l acc cur now = some q) (hr : foldO (fun s x => apO 64 s [x]) [] q = some r) :
  Contract Tryz.prog 131 [.nils, .fn 132 (apq_caps l acc cur now)] [] ⟨.own (.res 0), [some (.row 9 (r.map T_api_Hold.pv))], []⟩ := by
 have hx := EvX.rangeO (P := Tryz.prog) (ne := 0) (g := .tmp 6) (p := 7) (a := .ops apq_r2) (b := .block 1 (.ops apq_r3)) (enc := T_api_Hold.pv) (l := q) (fun i s => apq_T l acc cur now (i % 2 == 0) s) hr rfl (by intro x hx; simp only [apq_caps, List.mem_cons, List.not_mem_nil, or_false] at hx; rcases hx with rfl | rfl | rfl | rfl <;> rfl) (fun x => by kernel_rfl) (hold_those_iter hq)
  (fun i s x s1 hs => by
   have e : ((i + 1) % 2 == 0) = !(i % 2 == 0) := by rcases Nat.mod_two_eq_zero_or_one i with h | h <;> simp [h, Nat.add_mod]
   rw [e]; exact apq_round hs) (fun i s => by cases (i % 2 == 0) <;> kernel_rfl)
 obtain ⟨b, hb⟩ : ∃ b, (q.length % 2 == 0) = b := ⟨_, rfl⟩
 rw [hb] at hx
 refine contract_evx hm Tryz.func131 (apq_ag b) (by kernel_rfl) (EvX.seq (.ev (.ops Aw)) (.seqM (.seq (.ev (.ops Aw)) (.block (.keepE (by kernel_rfl) hx) (by simp))) (.seq (.ops (RunR.all (by cases b <;> kernel_rfl))) (.ret _)) (by cases b <;> kernel_rfl))) (.inr rfl) (by cases b <;> kernel_rfl)
def col_r0 : List GOp := [o0 2 (.mov .nils)]
def col_r1 : List GOp := [m0 3 0, o0 4 (.call 1 3 (.cst (.fn 131)) [.nils, (.tmp 3)] [] []), m0 2 4]
def col_b : AC := .seq (.ops col_r0) (.seq (.ops col_r1) .ret)
def col : Fd := ⟨1, [.tmp 2], [.loc 4 0], col_b⟩
theorem col_ag : agreeF Tryz.prog Tryz.f100 col = true := by kernel_rfl
theorem hold_collect_ok {l r : List T_api_Hold} {acc cur now : Int} (h : hold_collect l acc cur now = some r) :
  Contract Tryz.prog 100 [.fn 132 (apq_caps l acc cur now)] [] ⟨.own (.res 0), [some (.row 9 (r.map T_api_Hold.pv))], []⟩ := by
 unfold hold_collect at h
 obtain ⟨q, hq, h⟩ := bindS h
 refine contract_fin hm Tryz.func100 col_ag (by kernel_rfl) ?_
 refine W.seqOps Aw ?_
 refine W.seqOps (Bw 1 (RunR.cons (Tw (apq_ok hq h) tab_nil) (Step.callN (g := 131) (caps := []) (v := .own (.loc 4 0)) (ins := [(.loc 4 0, .row 9 (r.map T_api_Hold.pv))]) rfl (by kernel_rfl) (by kernel_rfl) (by kernel_rfl) Hw (by kernel_rfl) rfl) Aw)) ?_
 exact W.ret Fw
def Q30r0 : List GOp := [o0 5 (.box (.tmp 0)), o0 6 (.box (.tmp 1)), k0 10 0]
def Q30r1 : List GOp := [f0 14 3 6, l0 15 1 14, m0 16 2, f0 17 0 5, l0 18 1 17, m0 19 3, m0 20 4, o0 21 (.call 0 0 (.cst (.fn 71)) [(.tmp 15), (.tmp 16), (.tmp 18), (.tmp 19), (.tmp 20)] [] []), m0 13 21, o0 22 (.ext 0 (.tmp 13)), o0 23 (.ext 1 (.tmp 13)), m0 11 22, m0 12 23]
def Q30r2 : List GOp := [f0 24 1 5, l0 25 1 24, f0 26 2 5, l0 27 1 26, p0 28 .add 25 27, m0 29 11, p0 30 .sub 28 29, m0 10 30]
def Q30b : AC := (.seq (.ops Q30r0) (.seq (.ops Q30r1) (.seq (.ops Q30r2) (.keep [] [(10, false)] [] [.loc 5 0, .loc 6 0] [] .ret))))
def Q30 : Fd := ⟨5, [.tmp 10], [], Q30b⟩
theorem Q30_ag : agreeF Tryz.prog Tryz.f31 Q30 = true := by kernel_rfl
theorem avail_account_free_ok {a1 : T_avail_account} {t2 : T_api_Till} {acc3 : Int} {now4 : Int} {rank5 : Int} {r : Int} (h : avail_account_free a1 t2 acc3 now4 rank5 = some r) : Contract Tryz.prog 31 [.pv (T_avail_account.pv a1), .pv (T_api_Till.pv t2), Vi acc3, .pv (.int .i32 now4), Vi rank5] [] ⟨Vi r, [], []⟩ := by
 refine contract_fin hm Tryz.func31 Q30_ag (by kernel_rfl) ?_
 unfold avail_account_free at h
 refine W.seqOps Aw ?_
 obtain ⟨x6, hx6, h⟩ := bindS h
 refine W.seqOps (Bw 7 (RunR.cons (Tw (hold_Sum_ok hx6) tab_nil) (Kw 71 [] (.tup [Vi x6.1, Vi x6.2]) Hw) Aw)) ?_
 refine W.seqOps Aw ?_
 refine W.keep rfl ?_
 cases h
 exact W.ret Fw
def Q73r0 : List GOp := [o0 2 (.box (.tmp 0)), o0 4 (.alloc [.nils, .nils, .nils, .nils, .nils])]
def Q73r1 : List GOp := [f0 9 0 2, f0 10 0 9, l0 11 1 10, o0 12 (.call 0 0 (.cst (.fn 95)) [(.tmp 11)] [] []), f0 13 0 2, f0 14 1 13, l0 15 1 14, o0 16 (.call 0 0 (.cst (.fn 96)) [(.tmp 15)] [] []), o0 17 (.build [.nils, .nils] [(0, 1, (.tmp 12)), (1, 1, (.tmp 16))]), o0 5 (.alloc [.nils, .nils]), s0 2 5 17]
def Q73r2 : List GOp := [o0 6 (.mov .nils)]
def Q73r3 : List GOp := [f0 18 2 2, l0 19 1 18, e0 20 19, k0 21 0]
def Q73r4 : List GOp := [p0 22 .lss 21 20]
def Q73r5 : List GOp := [i0 23 7 19 21, t0 24 7 23, o0 8 (.alloc [.pv (.int .i64 0), .pv (.int .i32 0), .pv (.int .i32 0), .nils, .pv (.int .i64 0), .pv (.int .i64 0), .pv (.str [])]), s0 7 8 24]
def Q73r6 : List GOp := [f0 25 3 8, l0 26 1 25, o0 27 (.call 0 0 (.cst (.fn 97)) [(.tmp 26)] [] []), f0 28 3 8, s0 1 28 27]
def Q73r7 : List GOp := [m0 29 6, t0 30 7 8, o0 31 (.lit false 7 [(.tmp 30)]), o0 32 (.append 6 7 72 (.tmp 29) (.tmp 31)), m0 6 32]
def Q73r8 : List GOp := [q0 33 .add 21 1, m0 21 33]
def Q73l9 : AC := (.keep [] [(1, false), (2, false), (4, false), (5, false), (6, false), (19, false), (20, false), (21, false)] [(.loc 6 0, false), (.loc 2 0, false), (.loc 4 0, false), (.loc 5 0, false)] [.loc 8 0] [.slot 6 (.loc 6 0) 7] (.seq (.ops Q73r4) (.seq (.cond (.tmp 22) .skip (.exit 0)) (.seq (.pass 1 (.seq (.ops Q73r5) (.seq (.ops Q73r6) (.ops Q73r7)))) (.ops Q73r8)))))
def Q73r10 : List GOp := [t0 34 2 5, m0 35 6, m0 36 1, o0 37 (.call 0 0 (.cst (.fn 94)) [(.tmp 36)] [] []), f0 38 4 2, l0 39 1 38, o0 40 (.call 0 0 (.cst (.fn 98)) [(.tmp 39)] [] []), o0 41 (.build [.nils, .nils, .nils, .nils, .nils] [(0, 2, (.tmp 34)), (2, 1, (.tmp 35)), (3, 1, (.tmp 37)), (4, 1, (.tmp 40))]), s0 5 4 41]
def Q73b : AC := (.seq (.ops Q73r0) (.seq (.draw [.loc 5 0] Q73r1) (.seq (.ops Q73r2) (.seq (.seq (.ops Q73r3) (.block 0 (.loop [1, 2, 4, 5, 6, 19, 20, 21] [] Q73l9))) (.seq (.keep [.loc 6 0] [(1, false), (2, false), (4, false), (5, false), (6, true)] [(.loc 2 0, false), (.loc 4 0, false), (.loc 5 0, false)] [] [] (.draw [] Q73r10)) (.keep [] [(4, false)] [(.loc 4 0, false)] [.loc 2 0, .loc 5 0] [] .ret))))))
def Q73 : Fd := ⟨2, [.cell 4 true 5], [], Q73b⟩
theorem Q73_ag : agreeF Tryz.prog Tryz.f48 Q73 = true := by kernel_rfl
theorem avail_with_ok {t1 : T_api_Till} {l2 : List T_api_Hold} {r : T_api_Till} (h : avail_with t1 l2 = some r) : Contract Tryz.prog 48 [.pv (T_api_Till.pv t1), Vl T_api_Hold.pv l2] [] ⟨.pv (T_api_Till.pv r), [], []⟩ := by
 refine contract_fin hm Tryz.func48 Q73_ag (by kernel_rfl) ?_
 unfold avail_with at h
 refine W.seqOps Aw ?_
 obtain ⟨x3, hx3, h⟩ := bindS h
 obtain ⟨x4, hx4, h⟩ := bindS h
 refine W.seqDraw (Tw (slices_Clone95_ok hx3) (Tw (slices_Clone96_ok hx4) tab_nil)) (Dw 3 (Run.dyn (Kw 95 [] (Vl T_api_Customer.pv x3) Hw) (Dw 3 (Run.dyn (Kw 96 [] (Vl T_api_Record.pv x4) (tab_next rfl Hw)) Cw)))) ?_
 refine W.seqOps Aw ?_
 refine W.assoc ?_
 refine W.seqOps (Bw 2 (RunR.dyn (Lw T_api_Posting.pv t1.f_L) Aw)) ?_
 obtain ⟨j5, hj5, h⟩ := bindS h
 refine W.join (j := j5) (fun p σ => σ.tidy [.loc 6 0] [(1, false), (2, false), (4, false), (5, false), (6, true)] [(.loc 2 0, false), (.loc 4 0, false), (.loc 5 0, false)] [] [] = ⟨[(1, Vl T_api_Hold.pv l2), (2, .ptr (.loc 2 0) 0), (4, .ptr (.loc 4 0) 0), (5, .ptr (.loc 5 0) 0), (6, Vl T_api_Posting.pv p)], [(.loc 2 0, .box [Vl T_api_Customer.pv t1.f_Chart.f_Customers, Vl T_api_Record.pv t1.f_Chart.f_Records, Vl T_api_Posting.pv t1.f_L, Vl T_api_Hold.pv t1.f_Holds, Vl T_api_Limit.pv t1.f_Limits]), (.loc 4 0, .box [.nils, .nils, .nils, .nils, .nils]), (.loc 5 0, .box [Vl T_api_Customer.pv x3, Vl T_api_Record.pv x4])]⟩) ?_ (fun σj5 hsj5 => ?_)
 ·refine W.blockLoop (fun q σ => ((σ.forget [1, 2, 4, 5, 6, 19, 20, 21]).killAll []).tidy [] [(1, false), (2, false), (4, false), (5, false), (6, false), (19, false), (20, false), (21, false)] [(.loc 6 0, false), (.loc 2 0, false), (.loc 4 0, false), (.loc 5 0, false)] [.loc 8 0] [.slot 6 (.loc 6 0) 7] = ⟨[(1, Vl T_api_Hold.pv l2), (2, .ptr (.loc 2 0) 0), (4, .ptr (.loc 4 0) 0), (5, .ptr (.loc 5 0) 0), (6, .own (.loc 6 0)), (19, Vl T_api_Posting.pv t1.f_L), (20, Vi (t1.f_L.length : Int)), (21, Vi q.1)], [(.loc 6 0, .row 7 (List.map T_api_Posting.pv q.2)), (.loc 2 0, .box [Vl T_api_Customer.pv t1.f_Chart.f_Customers, Vl T_api_Record.pv t1.f_Chart.f_Records, Vl T_api_Posting.pv t1.f_L, Vl T_api_Hold.pv t1.f_Holds, Vl T_api_Limit.pv t1.f_Limits]), (.loc 4 0, .box [.nils, .nils, .nils, .nils, .nils]), (.loc 5 0, .box [Vl T_api_Customer.pv x3, Vl T_api_Record.pv x4])]⟩) hj5 ?_ ?_
  ·show _ = _
   kernel_rfl
  ·intro q σj5 oj5 hJj5 h
   obtain ⟨x6, row7⟩ := q
   refine W.keep hJj5 ?_
   refine W.seqOps Aw ?_
   refine W.seqCond (t := decide (x6 < (t1.f_L.length : Int))) (by kernel_rfl) h (fun hc h' => ?_) (fun hc h' => ?_)
   ·replace h := h'
    refine W.seqSkip ?_
    refine W.seqPass ?_
    refine W.assoc ?_
    obtain ⟨x8, hx8, h⟩ := bindS h
    refine W.seqOps (RunR.dyn (Iw T_api_Posting.pv t1.f_L x6 x8 hx8) Aw) ?_
    refine W.assoc ?_
    obtain ⟨x9, hx9, h⟩ := bindS h
    refine W.seqOps (Bw 2 (RunR.cons (Tw (slices_Clone97_ok hx9) tab_nil) (Kw 97 [] (Vl T_api_Leg.pv x9) Hw) Aw)) ?_
    obtain ⟨x10, hx10, h⟩ := bindS h
    refine W.seqOps (Bw 3 (RunR.dyn (Step.appendOwnT (k := .loc 6 0) (f := T_api_Posting.pv) (l := row7) (m := [(⟨x8.f_ID, x8.f_Known, x8.f_Value, x9, x8.f_Reverses, x8.f_Kind, x8.f_Memo⟩ : T_api_Posting)]) (by kernel_rfl) (by kernel_rfl) (by kernel_rfl) hx10 (fun _ => rfl) (by kernel_rfl)) Aw)) ?_
    refine W.ops Aw ?_
    cases h
    exact Ow
   ·replace h := h'
    cases h
    exact W.seqExit ((outw_out exit_ne (bnorm_x (by (show _ = _); kernel_rfl))))
 ·refine W.seqKeep hsj5 ?_
  obtain ⟨x12, hx12, h⟩ := bindS h
  obtain ⟨x13, hx13, h⟩ := bindS h
  refine W.seqDraw (Tw (slices_Clone94_ok hx12) (Tw (slices_Clone98_ok hx13) tab_nil)) (Dw 3 (Run.dyn (Kw 94 [] (Vl T_api_Hold.pv x12) Hw) (Dw 2 (Run.dyn (Kw 98 [] (Vl T_api_Limit.pv x13) (tab_next rfl Hw)) Cw)))) ?_
  refine W.keep rfl ?_
  cases h
  exact W.ret Fw
def Q65r0 : List GOp := [o0 2 (.box (.tmp 0)), o0 3 (.box (.tmp 1)), o0 4 (.alloc [.nils, .nils, .nils, .nils, .nils]), b0 5 false, k0 6 0]
def Q65r1 : List GOp := [t0 11 5 2, o0 12 (.call 0 0 (.cst (.fn 11)) [(.tmp 11)] [] []), o0 13 (.un .not (.tmp 12))]
def Q65r2 : List GOp := [o0 14 (.build [.nils, .nils, .nils, .nils, .nils] []), s0 5 4 14, b0 5 false, k0 6 1]
def Q65r3 : List GOp := [f0 16 3 2, l0 17 1 16, t0 18 9 3, o0 19 (.call 0 0 (.cst (.fn 47)) [(.tmp 17), (.tmp 18)] [] []), m0 15 19, o0 20 (.ext 0 (.tmp 15)), o0 21 (.ext 1 (.tmp 15)), m0 7 20, m0 8 21]
def Q65r4 : List GOp := [m0 22 8, q0 23 .neq 22 0]
def Q65r5 : List GOp := [o0 24 (.build [.nils, .nils, .nils, .nils, .nils] []), m0 25 8, s0 5 4 24, b0 5 false, m0 6 25]
def Q65r6 : List GOp := [t0 27 5 2, f0 28 1 3, l0 29 1 28, f0 30 5 3, l0 31 1 30, o0 32 (.call 0 0 (.cst (.fn 28)) [(.tmp 27), (.tmp 29), (.tmp 31)] [] []), m0 26 32, o0 33 (.ext 0 (.tmp 26)), o0 34 (.ext 1 (.tmp 26)), o0 9 (.alloc [.pv (.int .i64 0), .pv (.int .i64 0), .pv (.int .i64 0)]), s0 3 9 33, m0 10 34]
def Q65r7 : List GOp := [m0 36 10, o0 37 (.isNil true (.tmp 36)), m0 35 37]
def Q65r8 : List GOp := [o0 38 (.build [.nils, .nils, .nils, .nils, .nils] []), m0 39 10, o0 40 (.call 0 0 (.cst (.fn 29)) [(.tmp 39)] [] []), s0 5 4 38, b0 5 false, m0 6 40]
def Q65r9 : List GOp := [f0 42 2 3, f0 43 0 42, l0 44 1 43, f0 45 0 9, l0 46 1 45, p0 47 .neq 44 46, m0 41 47]
def Q65r10 : List GOp := [o0 48 (.build [.nils, .nils, .nils, .nils, .nils] []), s0 5 4 48, b0 5 false, k0 6 12]
def Q65r11 : List GOp := [f0 50 2 3, f0 51 1 50, l0 52 1 51, t0 53 3 9, t0 54 5 2, f0 55 1 3, l0 56 1 55, f0 57 5 3, l0 58 1 57, f0 59 4 3, l0 60 1 59, o0 61 (.call 0 0 (.cst (.fn 31)) [(.tmp 53), (.tmp 54), (.tmp 56), (.tmp 58), (.tmp 60)] [] []), p0 62 .gtr 52 61, m0 49 62]
def Q65r12 : List GOp := [t0 63 5 2, f0 64 3 2, l0 65 1 64, o0 66 (.call 0 0 (.cst (.fn 48)) [(.tmp 63), (.tmp 65)] [] []), s0 5 4 66, b0 5 false, k0 6 0]
def Q65r13 : List GOp := [t0 67 5 2, m0 68 7, o0 69 (.call 0 0 (.cst (.fn 48)) [(.tmp 67), (.tmp 68)] [] []), s0 5 4 69, b0 5 true, k0 6 0]
def Q65b : AC := (.seq (.ops Q65r0) (.seq (.seq (.ops Q65r1) (.cond (.tmp 13) (.seq (.ops Q65r2) (.keep [] [(4, false), (5, false), (6, false)] [(.loc 4 0, true)] [.loc 2 0, .loc 3 0, .loc 9 0] [] .ret)) .skip)) (.seq (.ops Q65r3) (.seq (.seq (.ops Q65r4) (.cond (.tmp 23) (.seq (.ops Q65r5) (.keep [] [(4, false), (5, false), (6, false)] [(.loc 4 0, true)] [.loc 2 0, .loc 3 0, .loc 9 0] [] .ret)) .skip)) (.seq (.ops Q65r6) (.seq (.pass 0 (.seq (.ops Q65r7) (.cond (.tmp 35) (.seq (.ops Q65r8) (.keep [] [(4, false), (5, false), (6, false)] [(.loc 4 0, true)] [.loc 2 0, .loc 3 0, .loc 9 0] [] .ret)) (.seq (.ops Q65r9) (.cond (.tmp 41) (.seq (.ops Q65r10) (.keep [] [(4, false), (5, false), (6, false)] [(.loc 4 0, true)] [.loc 2 0, .loc 3 0, .loc 9 0] [] .ret)) (.seq (.draw [] Q65r11) (.cond (.tmp 49) (.seq (.ops Q65r12) (.keep [] [(4, false), (5, false), (6, false)] [(.loc 4 0, true)] [.loc 2 0, .loc 3 0, .loc 9 0] [] .ret)) .skip))))))) (.seq (.ops Q65r13) (.keep [] [(4, false), (5, false), (6, false)] [(.loc 4 0, true)] [.loc 2 0, .loc 3 0, .loc 9 0] [] .ret))))))))
def Q65 : Fd := ⟨2, [.cell 4 true 5, .tmp 5, .tmp 6], [], Q65b⟩
theorem Q65_ag : agreeF Tryz.prog Tryz.f19 Q65 = true := by kernel_rfl
theorem avail_Place_ok {t1 : T_api_Till} {h2 : T_api_Hold} {r : T_api_Till × Bool × Int} (h : avail_Place t1 h2 = some r) : Contract Tryz.prog 19 [.pv (T_api_Till.pv t1), .pv (T_api_Hold.pv h2)] [] ⟨.tup [.pv (T_api_Till.pv r.1), Vb r.2.1, Vi r.2.2], [], []⟩ := by
 refine contract_fin hm Tryz.func19 Q65_ag (by kernel_rfl) ?_
 unfold avail_Place at h
 refine W.seqOps Aw ?_
 refine W.assoc ?_
 obtain ⟨x3, hx3, h⟩ := bindS h
 refine W.seqOps (Bw 1 (RunR.cons (Tw (avail_Right_ok hx3) tab_nil) (Kw 11 [] (Vb x3) Hw) Aw)) ?_
 refine W.seqCond (t := !x3) (by kernel_rfl) h (fun hc h' => ?_) (fun hc h' => ?_)
 ·replace h := h'
  refine W.assoc ?_
  refine W.seqOps Aw ?_
  refine W.seqKeep rfl ?_
  cases h
  exact W.seqRet Fw
 ·replace h := h'
  refine W.seqSkip ?_
  obtain ⟨x4, hx4, h⟩ := bindS h
  refine W.seqOps (Bw 3 (RunR.cons (Tw (hold_Add_ok hx4) tab_nil) (Kw 47 [] (.tup [Vl T_api_Hold.pv x4.1, Vi x4.2]) Hw) Aw)) ?_
  refine W.assoc ?_
  refine W.seqOps Aw ?_
  refine W.seqCond (t := (x4.2 != 0)) (by kernel_rfl) h (fun hc h' => ?_) (fun hc h' => ?_)
  ·replace h := h'
   refine W.assoc ?_
   refine W.seqOps Aw ?_
   refine W.seqKeep rfl ?_
   cases h
   exact W.seqRet Fw
  ·replace h := h'
   refine W.seqSkip ?_
   obtain ⟨x5, hx5, h⟩ := bindS h
   refine W.seqOps (Bw 5 (RunR.cons (Tw (avail_ask_ok hx5) tab_nil) (Kw 28 [] (.tup [.pv (T_avail_account.pv x5.1), .pv (eErr 113 x5.2)]) Hw) Aw)) ?_
   refine W.seqPass ?_
   refine W.assoc ?_
   refine W.seqOps (Bw 1 (RunR.dyn (Step.isNilT (t := 113) (e := x5.2) (by kernel_rfl)) Aw)) ?_
   refine W.seqCond (t := Option.isSome x5.2) (by kernel_rfl) h (fun hc h' => ?_) (fun hc h' => ?_)
   ·replace h := h'
    refine W.assoc ?_
    obtain ⟨x6, hx6, h⟩ := bindS h
    refine W.seqOps (Bw 2 (RunR.cons (Tw (avail_whyOf_ok hx6) tab_nil) (Kw 29 [] (Vi x6) Hw) Aw)) ?_
    refine W.seqKeep rfl ?_
    cases h
    exact W.seqRet Fw
   ·replace h := h'
    refine W.assoc ?_
    refine W.seqOps Aw ?_
    refine W.seqCond (t := (h2.f_Amount.f_Cur != x5.1.f_cur)) (by kernel_rfl) h (fun hc h' => ?_) (fun hc h' => ?_)
    ·replace h := h'
     refine W.assoc ?_
     refine W.seqOps Aw ?_
     refine W.seqKeep rfl ?_
     cases h
     exact W.seqRet Fw
    ·replace h := h'
     refine W.assoc ?_
     obtain ⟨x7, hx7, h⟩ := bindS h
     refine W.seqDraw (Tw (avail_account_free_ok hx7) tab_nil) (Dw 11 (Run.dyn (Kw 31 [] (Vi x7) Hw) Cw)) ?_
     refine W.seqCond (t := decide (h2.f_Amount.f_Minor > x7)) (by kernel_rfl) h (fun hc h' => ?_) (fun hc h' => ?_)
     ·replace h := h'
      refine W.assoc ?_
      obtain ⟨x8, hx8, h⟩ := bindS h
      refine W.seqOps (Bw 3 (RunR.cons (Tw (avail_with_ok hx8) tab_nil) (Kw 48 [] (.pv (T_api_Till.pv x8)) Hw) Aw)) ?_
      refine W.seqKeep rfl ?_
      cases h
      exact W.seqRet Fw
     ·replace h := h'
      refine W.seqSkip ?_
      obtain ⟨x9, hx9, h⟩ := bindS h
      refine W.seqOps (Bw 2 (RunR.cons (Tw (avail_with_ok hx9) tab_nil) (Kw 48 [] (.pv (T_api_Till.pv x9)) Hw) Aw)) ?_
      refine W.keep rfl ?_
      cases h
      exact W.ret Fw
def Q35r0 : List GOp := [o0 0 (.alloc [.nils, .nils, .nils, .nils, .nils])]
def Q35r1 : List GOp := [o0 1 (.build [.pv (.int .i64 0), .pv (.int .i64 0), .pv (.int .i64 0), .pv (.int .i64 0), .pv (.int .i64 0), .pv (.int .i64 0), .pv (.int .i32 0), .pv (.int .i32 0)] [(0, 1, (.cst (.int .i64 5))), (1, 1, (.cst (.int .i64 1))), (7, 1, (.cst (.int .i32 50000)))]), o0 2 (.lit false 8 [(.tmp 1)]), o0 3 (.build [.nils, .nils] [(1, 1, (.tmp 2))]), o0 4 (.build [.pv (.int .i64 0), .pv (.int .i64 0)] [(1, 1, (.cst (.int .i64 (-100))))]), o0 5 (.build [.pv (.int .i64 0), .pv (.int .i64 0), .pv (.int .i64 0)] [(0, 1, (.cst (.int .i64 5))), (1, 2, (.tmp 4))]), o0 6 (.lit false 3 [(.tmp 5)]), o0 7 (.build [.pv (.int .i64 0), .pv (.int .i32 0), .pv (.int .i32 0), .nils, .pv (.int .i64 0), .pv (.int .i64 0), .pv (.str [])] [(2, 1, (.cst (.int .i32 3))), (3, 1, (.tmp 6))]), o0 8 (.lit false 7 [(.tmp 7)]), o0 9 (.build [.pv (.int .i64 0), .pv (.int .i64 0)] [(1, 1, (.cst (.int .i64 30)))]), o0 10 (.build [.pv (.int .i64 0), .pv (.int .i64 0), .pv (.int .i64 0), .pv (.int .i64 0), .pv (.int .i64 0), .pv (.int .i32 0), .pv (.int .i32 0), .pv (.int .i64 0), .pv (.bool false)] [(0, 1, (.cst (.int .i64 1))), (1, 1, (.cst (.int .i64 5))), (2, 2, (.tmp 9)), (4, 1, (.cst (.int .i64 2))), (5, 1, (.cst (.int .i32 3))), (6, 1, (.cst (.int .i32 9)))]), o0 11 (.lit false 9 [(.tmp 10)]), o0 12 (.build [.nils, .nils, .nils, .nils, .nils] [(0, 2, (.tmp 3)), (2, 1, (.tmp 8)), (3, 1, (.tmp 11))]), s0 5 0 12]
def Q35b : AC := (.seq (.ops Q35r0) (.seq (.ops Q35r1) (.keep [] [(0, false)] [(.loc 0 0, true)] [] [] .ret)))
def Q35 : Fd := ⟨0, [.cell 0 true 5], [], Q35b⟩
theorem Q35_ag : agreeF Tryz.prog Tryz.f39 Q35 = true := by kernel_rfl
theorem cashbooklaw26_one_ok {r : T_api_Till} (h : cashbooklaw26_one = some r) : Contract Tryz.prog 39 [] [] ⟨.pv (T_api_Till.pv r), [], []⟩ := by
 refine contract_fin hm Tryz.func39 Q35_ag (by kernel_rfl) ?_
 unfold cashbooklaw26_one at h
 refine W.seqOps Aw ?_
 refine W.seqOps Aw ?_
 refine W.keep rfl ?_
 cases h
 exact W.ret Fw
def Q52r0 : List GOp := [b0 6 false]
def Q52r1 : List GOp := [m0 7 0, m0 8 1, p0 9 .geq 7 8, m0 10 9, g0 11 10 true (.mov (.tmp 0)), g0 12 10 true (.mov (.tmp 2)), g0 13 10 true (.bin false .leq (.tmp 11) (.tmp 12)), o0 14 (.pick (.tmp 10) (.tmp 13) (.cst (.bool false))), m0 6 14]
def Q52b : AC := (.seq (.ops Q52r0) (.seq (.ops Q52r1) (.keep [] [(6, false)] [] [] [] .ret)))
def Q52 : Fd := ⟨3, [.tmp 6], [], Q52b⟩
theorem Q52_ag : agreeF Tryz.prog Tryz.f30 Q52 = true := by kernel_rfl
theorem avail_in_int_ok {n1 : Int} {low2 : Int} {high3 : Int} {r : Bool} (h : avail_in_int n1 low2 high3 = some r) : Contract Tryz.prog 30 [Vi n1, Vi low2, Vi high3] [] ⟨Vb r, [], []⟩ := by
 refine contract_fin hm Tryz.func30 Q52_ag (by kernel_rfl) ?_
 unfold avail_in_int at h
 refine W.seqOps Aw ?_
 obtain ⟨c4, hc4, h⟩ := bindS h
 refine W.seqOps (Bw 3 (RunR.dyn (Nw (decide (n1 ≥ low2)) c4 hc4) (RunR.puts 4 [(14, Vb (c4 && (decide (n1 ≤ high3)))), (13, (Bf c4 (Vb (decide (n1 ≤ high3))))), (12, (Bf c4 (Vi high3))), (11, (Bf c4 (Vi n1)))] (by cases c4 <;> kernel_rfl) Aw))) ?_
 refine W.keep rfl ?_
 cases h
 exact W.ret Fw
def Q74r0 : List GOp := [o0 4 (.box (.tmp 0)), k0 8 0, k0 9 0]
def Q74r1 : List GOp := [t0 12 5 4, o0 13 (.call 0 0 (.cst (.fn 11)) [(.tmp 12)] [] []), o0 14 (.un .not (.tmp 13)), m0 15 14, g0 16 15 false (.mov (.tmp 3)), g0 17 15 false (.call 0 0 (.cst (.fn 30)) [(.tmp 16), (.cst (.int .i64 0)), (.cst (.int .i64 9))] [] []), g0 18 15 false (.un .not (.tmp 17)), o0 19 (.pick (.tmp 15) (.cst (.bool true)) (.tmp 18))]
def Q74r2 : List GOp := [k0 8 0, k0 9 1]
def Q74r3 : List GOp := [t0 21 5 4, m0 22 1, m0 23 2, o0 24 (.call 0 0 (.cst (.fn 28)) [(.tmp 21), (.tmp 22), (.tmp 23)] [] []), m0 20 24, o0 25 (.ext 0 (.tmp 20)), o0 26 (.ext 1 (.tmp 20)), o0 10 (.alloc [.pv (.int .i64 0), .pv (.int .i64 0), .pv (.int .i64 0)]), s0 3 10 25, m0 11 26]
def Q74r4 : List GOp := [m0 27 11, o0 28 (.isNil true (.tmp 27))]
def Q74r5 : List GOp := [m0 29 11, o0 30 (.call 0 0 (.cst (.fn 29)) [(.tmp 29)] [] []), k0 8 0, m0 9 30]
def Q74r6 : List GOp := [t0 31 3 10, t0 32 5 4, m0 33 1, m0 34 2, m0 35 3, o0 36 (.call 0 0 (.cst (.fn 31)) [(.tmp 31), (.tmp 32), (.tmp 33), (.tmp 34), (.tmp 35)] [] []), m0 8 36, k0 9 0]
def Q74b : AC := (.seq (.ops Q74r0) (.seq (.seq (.ops Q74r1) (.cond (.tmp 19) (.seq (.ops Q74r2) (.keep [] [(8, false), (9, false)] [] [.loc 10 0, .loc 4 0] [] .ret)) .skip)) (.seq (.ops Q74r3) (.seq (.seq (.ops Q74r4) (.cond (.tmp 28) (.seq (.ops Q74r5) (.keep [] [(8, false), (9, false)] [] [.loc 10 0, .loc 4 0] [] .ret)) .skip)) (.seq (.ops Q74r6) (.keep [] [(8, false), (9, false)] [] [.loc 10 0, .loc 4 0] [] .ret))))))
def Q74 : Fd := ⟨4, [.tmp 8, .tmp 9], [], Q74b⟩
theorem Q74_ag : agreeF Tryz.prog Tryz.f9 Q74 = true := by kernel_rfl
theorem avail_Free_ok {t1 : T_api_Till} {acc2 : Int} {now3 : Int} {rank4 : Int} {r : Int × Int} (h : avail_Free t1 acc2 now3 rank4 = some r) : Contract Tryz.prog 9 [.pv (T_api_Till.pv t1), Vi acc2, .pv (.int .i32 now3), Vi rank4] [] ⟨.tup [Vi r.1, Vi r.2], [], []⟩ := by
 refine contract_fin hm Tryz.func9 Q74_ag (by kernel_rfl) ?_
 unfold avail_Free at h
 refine W.seqOps Aw ?_
 refine W.assoc ?_
 obtain ⟨x5, hx5, h⟩ := bindS h
 obtain ⟨c6, hc6, h⟩ := bindS h
 obtain ⟨x7, hx7, h⟩ := bindS h
 refine W.seqOps (Bw 1 (RunR.cons (Tw (avail_Right_ok hx5) tab_nil) (Kw 11 [] (Vb x5) Hw) (Bw 1 (RunR.dyn (Nw (!x5) c6 hc6) (RunR.puts 1 [(16, (Bf (!c6) (Vi rank4)))] (by cases c6 <;> kernel_rfl) (RunR.cons (tab_cons (on := (!c6)) (fun hg => avail_in_int_ok (gdO_at hg hx7)) tab_nil) (Step.gdG (!c6) (by kernel_rfl) (by
    cases c6
    ·exact .inr ⟨by kernel_rfl, by kernel_rfl, Kw 30 [] (Vb x7) Hw⟩
    ·exact .inl ⟨by kernel_rfl, by kernel_rfl⟩)) (RunR.puts 2 [(19, Vb (c6 || (!x7))), (18, (Bf (!c6) (Vb (!x7))))] (by cases c6 <;> kernel_rfl) ((.nil _))))))))) ?_
 refine W.seqCond (t := (c6 || (!x7))) (by kernel_rfl) h (fun hc h' => ?_) (fun hc h' => ?_)
 ·replace h := h'
  refine W.assoc ?_
  refine W.seqOps Aw ?_
  refine W.seqKeep rfl ?_
  cases h
  exact W.seqRet Fw
 ·replace h := h'
  refine W.seqSkip ?_
  obtain ⟨x8, hx8, h⟩ := bindS h
  refine W.seqOps (Bw 3 (RunR.cons (Tw (avail_ask_ok hx8) tab_nil) (Kw 28 [] (.tup [.pv (T_avail_account.pv x8.1), .pv (eErr 113 x8.2)]) Hw) Aw)) ?_
  refine W.assoc ?_
  refine W.seqOps (Bw 1 (RunR.dyn (Step.isNilT (t := 113) (e := x8.2) (by kernel_rfl)) ((.nil _)))) ?_
  refine W.seqCond (t := Option.isSome x8.2) (by kernel_rfl) h (fun hc h' => ?_) (fun hc h' => ?_)
  ·replace h := h'
   refine W.assoc ?_
   obtain ⟨x9, hx9, h⟩ := bindS h
   refine W.seqOps (Bw 1 (RunR.cons (Tw (avail_whyOf_ok hx9) tab_nil) (Kw 29 [] (Vi x9) Hw) Aw)) ?_
   refine W.seqKeep rfl ?_
   cases h
   exact W.seqRet Fw
  ·replace h := h'
   refine W.seqSkip ?_
   obtain ⟨x10, hx10, h⟩ := bindS h
   refine W.seqOps (Bw 5 (RunR.cons (Tw (avail_account_free_ok hx10) tab_nil) (Kw 31 [] (Vi x10) Hw) Aw)) ?_
   refine W.keep rfl ?_
   cases h
   exact W.ret Fw
def Q28r0 : List GOp := [b0 0 false]
def Q28r1 : List GOp := [o0 6 (.call 0 0 (.cst (.fn 39)) [] [] []), o0 7 (.call 0 0 (.cst (.fn 9)) [(.tmp 6), (.cst (.int .i64 5)), (.cst (.int .i32 4)), (.cst (.int .i64 0))] [] []), m0 5 7, o0 8 (.ext 0 (.tmp 5)), o0 9 (.ext 1 (.tmp 5)), m0 1 8, m0 2 9]
def Q28r2 : List GOp := [o0 11 (.call 0 0 (.cst (.fn 39)) [] [] []), o0 12 (.call 0 0 (.cst (.fn 9)) [(.tmp 11), (.cst (.int .i64 5)), (.cst (.int .i32 4)), (.cst (.int .i64 3))] [] []), m0 10 12, o0 13 (.ext 0 (.tmp 10)), o0 14 (.ext 1 (.tmp 10)), m0 3 13, m0 4 14]
def Q28r3 : List GOp := [m0 15 2, q0 16 .eql 15 0, m0 17 16, g0 18 17 true (.mov (.tmp 4)), g0 19 17 true (.bin false .eql (.tmp 18) (.cst (.int .i64 0))), o0 20 (.pick (.tmp 17) (.tmp 19) (.cst (.bool false))), m0 21 20, g0 22 21 true (.mov (.tmp 1)), g0 23 21 true (.bin false .eql (.tmp 22) (.cst (.int .i64 70))), o0 24 (.pick (.tmp 21) (.tmp 23) (.cst (.bool false))), m0 25 24, g0 26 25 true (.mov (.tmp 3)), g0 27 25 true (.bin false .eql (.tmp 26) (.cst (.int .i64 100))), o0 28 (.pick (.tmp 25) (.tmp 27) (.cst (.bool false))), m0 0 28]
def Q28b : AC := (.seq (.ops Q28r0) (.seq (.ops Q28r1) (.seq (.ops Q28r2) (.seq (.ops Q28r3) (.keep [] [(0, false)] [] [] [] .ret)))))
def Q28 : Fd := ⟨0, [.tmp 0], [], Q28b⟩
theorem Q28_ag : agreeF Tryz.prog Tryz.f13 Q28 = true := by kernel_rfl
theorem cashbooklaw26_alive_ok {r : Bool} (h : cashbooklaw26_alive = some r) : Contract Tryz.prog 13 [] [] ⟨Vb r, [], []⟩ := by
 refine contract_fin hm Tryz.func13 Q28_ag (by kernel_rfl) ?_
 unfold cashbooklaw26_alive at h
 refine W.seqOps Aw ?_
 obtain ⟨x1, hx1, h⟩ := bindS h
 obtain ⟨x2, hx2, h⟩ := bindS h
 refine W.seqOps (RunR.cons (Tw (cashbooklaw26_one_ok hx1) tab_nil) (Kw 39 [] (.pv (T_api_Till.pv x1)) Hw) (RunR.cons (Tw (avail_Free_ok hx2) tab_nil) (Kw 9 [] (.tup [Vi x2.1, Vi x2.2]) Hw) Aw)) ?_
 obtain ⟨x3, hx3, h⟩ := bindS h
 obtain ⟨x4, hx4, h⟩ := bindS h
 refine W.seqOps (RunR.cons (Tw (cashbooklaw26_one_ok hx3) tab_nil) (Kw 39 [] (.pv (T_api_Till.pv x3)) Hw) (RunR.cons (Tw (avail_Free_ok hx4) tab_nil) (Kw 9 [] (.tup [Vi x4.1, Vi x4.2]) Hw) Aw)) ?_
 obtain ⟨c5, hc5, h⟩ := bindS h
 obtain ⟨c6, hc6, h⟩ := bindS h
 obtain ⟨c7, hc7, h⟩ := bindS h
 refine W.seqOps (Bw 2 (RunR.dyn (Nw (x2.2 == 0) c5 hc5) (RunR.puts 3 [(20, Vb (c5 && (x4.2 == 0))), (19, (Bf c5 (Vb (x4.2 == 0)))), (18, (Bf c5 (Vi x4.2)))] (by cases c5 <;> kernel_rfl) (RunR.dyn (Nw (c5 && (x4.2 == 0)) c6 hc6) (RunR.puts 3 [(24, Vb (c6 && (x2.1 == 70))), (23, (Bf c6 (Vb (x2.1 == 70)))), (22, (Bf c6 (Vi x2.1)))] (by cases c6 <;> kernel_rfl) (RunR.dyn (Nw (c6 && (x2.1 == 70)) c7 hc7) (RunR.puts 3 [(28, Vb (c7 && (x4.1 == 100))), (27, (Bf c7 (Vb (x4.1 == 100)))), (26, (Bf c7 (Vi x4.1)))] (by cases c7 <;> kernel_rfl) Aw))))))) ?_
 refine W.keep rfl ?_
 cases h
 exact W.ret Fw
def Q53r0 : List GOp := [o0 7 (.box (.tmp 2)), o0 10 (.mov .nils), k0 11 0]
def Q53r1 : List GOp := [m0 16 0, o0 17 (.call 0 0 (.cst (.fn 35)) [(.tmp 16)] [] []), m0 12 17]
def Q53r2 : List GOp := [m0 18 12, q0 19 .neq 18 0]
def Q53r3 : List GOp := [m0 20 12, o0 10 (.mov .nils), m0 11 20]
def Q53r4 : List GOp := [m0 22 0, m0 23 1, o0 24 (.call 0 0 (.cst (.fn 92)) [(.tmp 22), (.tmp 23)] [] []), m0 21 24, o0 25 (.ext 0 (.tmp 21)), o0 26 (.ext 1 (.tmp 21)), m0 13 25, m0 14 26]
def Q53r5 : List GOp := [m0 28 14, o0 29 (.un .not (.tmp 28)), m0 27 29]
def Q53r6 : List GOp := [o0 10 (.mov .nils), k0 11 8]
def Q53r7 : List GOp := [m0 31 0, m0 32 13, i0 33 9 31 32, t0 34 9 33, m0 35 3, o0 36 (.call 0 0 (.cst (.fn 63)) [(.tmp 34), (.tmp 35)] [] []), o0 37 (.un .not (.tmp 36)), m0 30 37]
def Q53r8 : List GOp := [o0 10 (.mov .nils), k0 11 27]
def Q53r9 : List GOp := [f0 39 0 7, l0 40 1 39, m0 41 0, m0 42 13, i0 43 9 41 42, f0 44 2 43, f0 45 0 44, l0 46 1 45, p0 47 .neq 40 46, m0 38 47]
def Q53r10 : List GOp := [o0 10 (.mov .nils), k0 11 12]
def Q53r11 : List GOp := [t0 49 2 7, o0 50 (.call 0 0 (.cst (.fn 99)) [(.tmp 49)] [] []), o0 51 (.un .not (.tmp 50)), m0 52 51, g0 53 52 false (.fld 1 (.tmp 7)), g0 54 52 false (.load false 1 (.tmp 53)), g0 55 52 false (.bin false .leq (.tmp 54) (.cst (.int .i64 0))), o0 56 (.pick (.tmp 52) (.cst (.bool true)) (.tmp 55)), m0 48 56]
def Q53r12 : List GOp := [o0 10 (.mov .nils), k0 11 1]
def Q53r13 : List GOp := [f0 58 1 7, l0 59 1 58, m0 60 0, m0 61 13, i0 62 9 60 61, t0 63 9 62, m0 64 3, o0 65 (.call 0 0 (.cst (.fn 27)) [(.tmp 63), (.tmp 64)] [] []), p0 66 .gtr 59 65, m0 57 66]
def Q53r14 : List GOp := [o0 10 (.mov .nils), k0 11 17]
def Q53r15 : List GOp := [m0 67 0, o0 68 (.call 1 0 (.cst (.fn 94)) [(.tmp 67)] [] []), m0 15 68]
def Q53r16 : List GOp := [m0 69 15, m0 70 13, i0 71 9 69 70, f0 72 7 71, l0 73 1 72, f0 74 1 7, l0 75 1 74, p0 76 .add 73 75, i0 77 9 69 70, f0 78 7 77, s0 1 78 76]
def Q53r17 : List GOp := [m0 79 15, m0 80 13, m0 81 4, m0 82 81, g0 83 82 false (.mov (.tmp 15)), g0 84 82 false (.mov (.tmp 13)), g0 85 82 false (.idx 9 (.tmp 83) (.tmp 84)), g0 86 82 false (.fld 7 (.tmp 85)), g0 87 82 false (.load false 1 (.tmp 86)), g0 88 82 false (.mov (.tmp 15)), g0 89 82 false (.mov (.tmp 13)), g0 90 82 false (.idx 9 (.tmp 88) (.tmp 89)), g0 91 82 false (.fld 2 (.tmp 90)), g0 92 82 false (.fld 1 (.tmp 91)), g0 93 82 false (.load false 1 (.tmp 92)), g0 94 82 false (.bin false .eql (.tmp 87) (.tmp 93)), o0 95 (.pick (.tmp 82) (.cst (.bool true)) (.tmp 94)), i0 96 9 79 80, f0 97 8 96, s0 1 97 95]
def Q53r18 : List GOp := [m0 98 15, m0 10 98, k0 11 0]
def Q53b : AC := (.seq (.ops Q53r0) (.seq (.seq (.ops Q53r1) (.seq (.ops Q53r2) (.cond (.tmp 19) (.seq (.ops Q53r3) (.keep [.loc 68 0] [(10, true), (11, false)] [] [.loc 7 0] [] .ret)) .skip))) (.seq (.ops Q53r4) (.seq (.pass 0 (.seq (.ops Q53r5) (.cond (.tmp 27) (.seq (.ops Q53r6) (.keep [.loc 68 0] [(10, true), (11, false)] [] [.loc 7 0] [] .ret)) (.seq (.ops Q53r7) (.cond (.tmp 30) (.seq (.ops Q53r8) (.keep [.loc 68 0] [(10, true), (11, false)] [] [.loc 7 0] [] .ret)) (.seq (.draw [] Q53r9) (.cond (.tmp 38) (.seq (.ops Q53r10) (.keep [.loc 68 0] [(10, true), (11, false)] [] [.loc 7 0] [] .ret)) (.seq (.ops Q53r11) (.cond (.tmp 48) (.seq (.ops Q53r12) (.keep [.loc 68 0] [(10, true), (11, false)] [] [.loc 7 0] [] .ret)) (.seq (.draw [] Q53r13) (.cond (.tmp 57) (.seq (.ops Q53r14) (.keep [.loc 68 0] [(10, true), (11, false)] [] [.loc 7 0] [] .ret)) .skip))))))))))) (.seq (.ops Q53r15) (.seq (.draw [] Q53r16) (.seq (.draw [] Q53r17) (.seq (.ops Q53r18) (.keep [.loc 68 0] [(10, true), (11, false)] [] [.loc 7 0] [] .ret)))))))))
def Q53 : Fd := ⟨5, [.tmp 10, .tmp 11], [], Q53b⟩
theorem Q53_ag : agreeF Tryz.prog Tryz.f49 Q53 = true := by kernel_rfl
theorem hold_Capture_ok {l1 : List T_api_Hold} {id2 : Int} {amount3 : T_api_Money} {now4 : Int} {last5 : Bool} {r : (List T_api_Hold) × Int} (h : hold_Capture l1 id2 amount3 now4 last5 = some r) : Contract Tryz.prog 49 [Vl T_api_Hold.pv l1, Vi id2, .pv (T_api_Money.pv amount3), .pv (.int .i32 now4), Vb last5] [] ⟨.tup [Vl T_api_Hold.pv r.1, Vi r.2], [], []⟩ := by
 refine contract_fin hm Tryz.func49 Q53_ag (by kernel_rfl) ?_
 unfold hold_Capture at h
 refine W.seqOps Aw ?_
 refine W.assoc ?_
 obtain ⟨x6, hx6, h⟩ := bindS h
 refine W.seqOps (Bw 1 (RunR.cons (Tw (hold_Check_ok hx6) tab_nil) (Kw 35 [] (Vi x6) Hw) Aw)) ?_
 refine W.assoc ?_
 refine W.seqOps Aw ?_
 refine W.seqCond (t := (x6 != 0)) (by kernel_rfl) h (fun hc h' => ?_) (fun hc h' => ?_)
 ·replace h := h'
  refine W.assoc ?_
  refine W.seqOps Aw ?_
  refine W.seqKeep rfl ?_
  cases h
  exact W.seqRet Fw
 ·replace h := h'
  refine W.seqSkip ?_
  obtain ⟨x7, hx7, h⟩ := bindS h
  refine W.seqOps (Bw 2 (RunR.cons (Tw (hold_place_ok hx7) tab_nil) (Kw 92 [] (.tup [Vi x7.1, Vb x7.2]) Hw) Aw)) ?_
  refine W.seqPass ?_
  refine W.assoc ?_
  refine W.seqOps Aw ?_
  refine W.seqCond (t := !x7.2) (by kernel_rfl) h (fun hc h' => ?_) (fun hc h' => ?_)
  ·replace h := h'
   refine W.assoc ?_
   refine W.seqOps Aw ?_
   refine W.seqKeep rfl ?_
   cases h
   exact W.seqRet Fw
  ·replace h := h'
   refine W.assoc ?_
   obtain ⟨x8, hx8, h⟩ := bindS h
   obtain ⟨x9, hx9, h⟩ := bindS h
   refine W.seqOps (Bw 2 (RunR.dyn (Iw T_api_Hold.pv l1 x7.1 x8 hx8) (Bw 2 (RunR.cons (Tw (hold_Live_ok hx9) tab_nil) (Kw 63 [] (Vb x9) Hw) Aw)))) ?_
   refine W.seqCond (t := !x9) (by kernel_rfl) h (fun hc h' => ?_) (fun hc h' => ?_)
   ·replace h := h'
    refine W.assoc ?_
    refine W.seqOps Aw ?_
    refine W.seqKeep rfl ?_
    cases h
    exact W.seqRet Fw
   ·replace h := h'
    refine W.assoc ?_
    obtain ⟨x10, hx10, h⟩ := bindS h
    refine W.seqDraw tab_nil (Dw 4 (Run.dyn (Iw T_api_Hold.pv l1 x7.1 x10 hx10) Cw)) ?_
    refine W.seqCond (t := (amount3.f_Cur != x10.f_Amount.f_Cur)) (by kernel_rfl) h (fun hc h' => ?_) (fun hc h' => ?_)
    ·replace h := h'
     refine W.assoc ?_
     refine W.seqOps Aw ?_
     refine W.seqKeep rfl ?_
     cases h
     exact W.seqRet Fw
    ·replace h := h'
     refine W.assoc ?_
     obtain ⟨x11, hx11, h⟩ := bindS h
     obtain ⟨c12, hc12, h⟩ := bindS h
     refine W.seqOps (Bw 1 (RunR.cons (Tw (money_Right_ok hx11) tab_nil) (Kw 99 [] (Vb x11) Hw) (Bw 1 (RunR.dyn (Nw (!x11) c12 hc12) (RunR.puts 4 [(56, Vb (c12 || (decide (amount3.f_Minor ≤ 0)))), (55, (Bf (!c12) (Vb (decide (amount3.f_Minor ≤ 0))))), (54, (Bf (!c12) (Vi amount3.f_Minor))), (53, (Bf (!c12) (.ptr (.loc 7 0) 1)))] (by cases c12 <;> kernel_rfl) Aw))))) ?_
     refine W.seqCond (t := (c12 || (decide (amount3.f_Minor ≤ 0)))) (by kernel_rfl) h (fun hc h' => ?_) (fun hc h' => ?_)
     ·replace h := h'
      refine W.assoc ?_
      refine W.seqOps Aw ?_
      refine W.seqKeep rfl ?_
      cases h
      exact W.seqRet Fw
     ·replace h := h'
      refine W.assoc ?_
      obtain ⟨x13, hx13, h⟩ := bindS h
      obtain ⟨x14, hx14, h⟩ := bindS h
      refine W.seqDraw (Tw (hold_Rest_ok hx14) tab_nil) (Dw 4 (Run.dyn (Iw T_api_Hold.pv l1 x7.1 x13 hx13) (Dw 2 (Run.dyn (Kw 27 [] (Vi x14) Hw) Cw)))) ?_
      refine W.seqCond (t := decide (amount3.f_Minor > x14)) (by kernel_rfl) h (fun hc h' => ?_) (fun hc h' => ?_)
      ·replace h := h'
       refine W.assoc ?_
       refine W.seqOps Aw ?_
       refine W.seqKeep rfl ?_
       cases h
       exact W.seqRet Fw
      ·replace h := h'
       refine W.seqSkip ?_
       obtain ⟨x15, hx15, h⟩ := bindS h
       refine W.seqOps (Bw 1 (RunR.cons (Tw (slices_Clone94_ok hx15) tab_nil) (Step.callS (g := 94) (caps := []) (v := .own (.loc 68 0)) (ins := [(.loc 68 0, .row 9 (List.map T_api_Hold.pv x15))]) (by kernel_rfl) (by kernel_rfl) (by kernel_rfl) Hw (by kernel_rfl)) Aw)) ?_
       obtain ⟨x16, hx16, h⟩ := bindS h
       obtain ⟨x17, hx17, h⟩ := bindS h
       refine W.seqDraw tab_nil (Dw 2 (Run.dyn (Step.idxOwnT (k := .loc 68 0) (f := T_api_Hold.pv) (l := x15) (n := x7.1) (e := x16) (kd := .i64) (by kernel_rfl) (by kernel_rfl) (by kernel_rfl) hx16) (Dw 1 (Run.dyn (Step.loadRowT (off := 7) (k := .loc 68 0) (f := T_api_Hold.pv) (l := x15) (i := x7.1) (e := x16) (sz := 9) (v := Vi x16.f_Taken) (by kernel_rfl) (by kernel_rfl) hx16 (by kernel_rfl) (by kernel_rfl)) (Dw 3 (Run.dyn (Step.idxOwnT (k := .loc 68 0) (f := T_api_Hold.pv) (l := x15) (n := x7.1) (e := x17) (kd := .i64) (by kernel_rfl) (by kernel_rfl) (by kernel_rfl) hx17) (Dw 1 (Run.dyn (Step.storeRowT (sz := 9) (off := 7) (k := .loc 68 0) (f := T_api_Hold.pv) (l := x15) (i := x7.1) (e := x17) (e' := (⟨x17.f_ID, x17.f_Acc, x17.f_Amount, x17.f_Rank, x17.f_Made, x17.f_Until, IntKind.wrap .i64 (x16.f_Taken + amount3.f_Minor), x17.f_Done⟩ : T_api_Hold)) (v := (.int .i64 (IntKind.wrap .i64 (x16.f_Taken + amount3.f_Minor)))) (by kernel_rfl) (by kernel_rfl) (by kernel_rfl) hx17 (by kernel_rfl) (by kernel_rfl)) ((Run.nil)))))))))) ?_
       obtain ⟨x18, hx18, h⟩ := bindS h
       obtain ⟨x19, hx19, h⟩ := bindS h
       obtain ⟨x20, hx20, h⟩ := bindS h
       refine W.seqDraw tab_nil (Dw 4 (Run.puts 2 [(84, (Bf (!last5) (Vi x7.1))), (83, (Bf (!last5) (.own (.loc 68 0))))] (by cases last5 <;> kernel_rfl) (Run.dyn (Step.gdG (!last5) (by kernel_rfl) (by
          cases last5
          ·exact .inr ⟨by kernel_rfl, by kernel_rfl, Step.idxOwnT (k := .loc 68 0) (f := T_api_Hold.pv) (l := (List.set x15 (Int.toNat x7.1) (⟨x17.f_ID, x17.f_Acc, x17.f_Amount, x17.f_Rank, x17.f_Made, x17.f_Until, IntKind.wrap .i64 (x16.f_Taken + amount3.f_Minor), x17.f_Done⟩ : T_api_Hold))) (n := x7.1) (e := x18) (kd := .i64) (by kernel_rfl) (by kernel_rfl) (by kernel_rfl) hx18⟩
          ·exact .inl ⟨by kernel_rfl, by kernel_rfl⟩)) (Run.puts 1 [(86, (Bf (!last5) (.iown (.loc 68 0) (Int.toNat x7.1) 7)))] (by cases last5 <;> kernel_rfl) (Run.dyn (Step.gdG (!last5) (by kernel_rfl) (by
          cases last5
          ·exact .inr ⟨by kernel_rfl, by kernel_rfl, Step.loadRowT (off := 7) (k := .loc 68 0) (f := T_api_Hold.pv) (l := (List.set x15 (Int.toNat x7.1) (⟨x17.f_ID, x17.f_Acc, x17.f_Amount, x17.f_Rank, x17.f_Made, x17.f_Until, IntKind.wrap .i64 (x16.f_Taken + amount3.f_Minor), x17.f_Done⟩ : T_api_Hold))) (i := x7.1) (e := x18) (sz := 9) (v := Vi x18.f_Taken) (by kernel_rfl) (by kernel_rfl) hx18 (by kernel_rfl) (by kernel_rfl)⟩
          ·exact .inl ⟨by kernel_rfl, by kernel_rfl⟩)) (Run.puts 2 [(89, (Bf (!last5) (Vi x7.1))), (88, (Bf (!last5) (.own (.loc 68 0))))] (by cases last5 <;> kernel_rfl) (Run.dyn (Step.gdG (!last5) (by kernel_rfl) (by
          cases last5
          ·exact .inr ⟨by kernel_rfl, by kernel_rfl, Step.idxOwnT (k := .loc 68 0) (f := T_api_Hold.pv) (l := (List.set x15 (Int.toNat x7.1) (⟨x17.f_ID, x17.f_Acc, x17.f_Amount, x17.f_Rank, x17.f_Made, x17.f_Until, IntKind.wrap .i64 (x16.f_Taken + amount3.f_Minor), x17.f_Done⟩ : T_api_Hold))) (n := x7.1) (e := x19) (kd := .i64) (by kernel_rfl) (by kernel_rfl) (by kernel_rfl) hx19⟩
          ·exact .inl ⟨by kernel_rfl, by kernel_rfl⟩)) (Run.puts 2 [(92, (Bf (!last5) (.iown (.loc 68 0) (Int.toNat x7.1) 3))), (91, (Bf (!last5) (.iown (.loc 68 0) (Int.toNat x7.1) 2)))] (by cases last5 <;> kernel_rfl) (Run.dyn (Step.gdG (!last5) (by kernel_rfl) (by
          cases last5
          ·exact .inr ⟨by kernel_rfl, by kernel_rfl, Step.loadRowT (off := 3) (k := .loc 68 0) (f := T_api_Hold.pv) (l := (List.set x15 (Int.toNat x7.1) (⟨x17.f_ID, x17.f_Acc, x17.f_Amount, x17.f_Rank, x17.f_Made, x17.f_Until, IntKind.wrap .i64 (x16.f_Taken + amount3.f_Minor), x17.f_Done⟩ : T_api_Hold))) (i := x7.1) (e := x19) (sz := 9) (v := Vi x19.f_Amount.f_Minor) (by kernel_rfl) (by kernel_rfl) hx19 (by kernel_rfl) (by kernel_rfl)⟩
          ·exact .inl ⟨by kernel_rfl, by kernel_rfl⟩)) (Run.puts 2 [(95, Vb (last5 || (x18.f_Taken == x19.f_Amount.f_Minor))), (94, (Bf (!last5) (Vb (x18.f_Taken == x19.f_Amount.f_Minor))))] (by cases last5 <;> kernel_rfl) (Run.dyn (Step.idxOwnT (k := .loc 68 0) (f := T_api_Hold.pv) (l := (List.set x15 (Int.toNat x7.1) (⟨x17.f_ID, x17.f_Acc, x17.f_Amount, x17.f_Rank, x17.f_Made, x17.f_Until, IntKind.wrap .i64 (x16.f_Taken + amount3.f_Minor), x17.f_Done⟩ : T_api_Hold))) (n := x7.1) (e := x20) (kd := .i64) (by kernel_rfl) (by kernel_rfl) (by kernel_rfl) hx20) (Dw 1 (Run.dyn (Step.storeRowT (sz := 9) (off := 8) (k := .loc 68 0) (f := T_api_Hold.pv) (l := (List.set x15 (Int.toNat x7.1) (⟨x17.f_ID, x17.f_Acc, x17.f_Amount, x17.f_Rank, x17.f_Made, x17.f_Until, IntKind.wrap .i64 (x16.f_Taken + amount3.f_Minor), x17.f_Done⟩ : T_api_Hold))) (i := x7.1) (e := x20) (e' := (⟨x20.f_ID, x20.f_Acc, x20.f_Amount, x20.f_Rank, x20.f_Made, x20.f_Until, x20.f_Taken, (last5 || (x18.f_Taken == x19.f_Amount.f_Minor))⟩ : T_api_Hold)) (v := (.bool (last5 || (x18.f_Taken == x19.f_Amount.f_Minor)))) (by kernel_rfl) (by kernel_rfl) (by kernel_rfl) hx20 (by kernel_rfl) (by kernel_rfl)) ((Run.nil))))))))))))))) ?_
       refine W.seqOps Aw ?_
       refine W.keep rfl ?_
       cases h
       exact W.ret Fw
def Q54r0 : List GOp := [o0 2 (.box (.tmp 0)), b0 3 false]
def Q54r1 : List GOp := [f0 4 0 2, l0 5 1 4, l0 6 1 1, p0 7 .eql 5 6, m0 3 7]
def Q54b : AC := (.seq (.ops Q54r0) (.seq (.ops Q54r1) (.keep [] [(3, false)] [] [.loc 2 0] [] .ret)))
def Q54 : Fd := ⟨2, [.tmp 3], [], Q54b⟩
theorem Q54_ag : agreeF Tryz.prog Tryz.f51 Q54 = true := by kernel_rfl
theorem avail_Take_1_ok {h1 : T_api_Hold} {x2 : Int} {r : Bool} (h : avail_Take_1 h1 x2 = some r) : Contract Tryz.prog 51 [.pv (T_api_Hold.pv h1), .ipv (.agg [.int .i64 x2]) 0] [] ⟨Vb r, [], []⟩ := by
 refine contract_fin hm Tryz.func51 Q54_ag (by kernel_rfl) ?_
 unfold avail_Take_1 at h
 refine W.seqOps Aw ?_
 refine W.seqOps Aw ?_
 refine W.keep rfl ?_
 cases h
 exact W.ret Fw
end Go.Av.G
end
section
set_option linter.unusedVariables false
set_option linter.unusedSimpArgs false
set_option maxRecDepth 100000
set_option maxHeartbeats 8000000
namespace Go.Av.G
open Go Go.Av Go.Proofs
def Q14r0 : List GOp := [k0 4 0]
def Q14r1 : List GOp := [m0 6 0, e0 7 6, k0 8 0]
def Q14r2 : List GOp := [p0 9 .lss 8 7]
def Q14r3 : List GOp := [m0 10 8, m0 5 10]
def Q14r4 : List GOp := [m0 11 1, m0 12 0, m0 13 5, i0 14 9 12 13, t0 15 9 14, o0 16 (.call 0 0 (.tmp 11) [(.tmp 15)] [] [])]
def Q14r5 : List GOp := [m0 17 5, m0 4 17]
def Q14r6 : List GOp := [q0 18 .add 8 1, m0 8 18]
def Q14l7 : AC := (.keep [] [(0, false), (1, false), (7, false), (8, false)] [] [] [] (.seq (.ops Q14r2) (.seq (.cond (.tmp 9) .skip (.exit 0)) (.seq (.pass 1 (.seq (.ops Q14r3) (.seq (.ops Q14r4) (.cond (.tmp 16) (.seq (.ops Q14r5) (.keep [] [(4, false)] [] [] [] .ret)) .skip)))) (.ops Q14r6)))))
def Q14r8 : List GOp := [k0 4 (-1)]
def Q14b : AC := (.seq (.ops Q14r0) (.seq (.seq (.ops Q14r1) (.block 0 (.loop [0, 1, 7, 8] [] Q14l7))) (.seq (.keep [] [] [] [] [] (.ops Q14r8)) (.keep [] [(4, false)] [] [] [] .ret))))
def Q14 : Fd := ⟨2, [.tmp 4], [], Q14b⟩
theorem Q14_ag : agreeF Tryz.prog Tryz.f50 Q14 = true := by kernel_rfl
theorem slices_IndexFunc_Hold_Hold_1_ok {s1 : List T_api_Hold} {c2 : Int} {r : Int} (h : slices_IndexFunc_Hold_Hold_1 s1 c2 = some r) : Contract Tryz.prog 50 [Vl T_api_Hold.pv s1, .fn 51 [.ipv (.agg [.int .i64 c2]) 0]] [] ⟨Vi r, [], []⟩ := by
 refine contract_fin hm Tryz.func50 Q14_ag (by kernel_rfl) ?_
 unfold slices_IndexFunc_Hold_Hold_1 at h
 refine W.seqOps Aw ?_
 refine W.assoc ?_
 refine W.seqOps (Bw 1 (RunR.dyn (Lw T_api_Hold.pv s1) Aw)) ?_
 obtain ⟨j3, hj3, h⟩ := bindS h
 refine W.joinOut (j := j3) (o := r) (fun p σ => σ.tidy [] [] [] [] [] = ⟨[], []⟩) ?_ (fun p σj3 hp hsj3 => ?_) (fun p hp => ?_)
 ·refine W.blockLoopO (fun q σ => ((σ.forget [0, 1, 7, 8]).killAll []).tidy [] [(0, false), (1, false), (7, false), (8, false)] [] [] [] = ⟨[(0, Vl T_api_Hold.pv s1), (1, .fn 51 [.ipv (.agg [.int .i64 c2]) 0]), (7, Vi (s1.length : Int)), (8, Vi q)], []⟩) hj3 ?_ ?_
  ·show _ = _
   kernel_rfl
  ·intro x4 σj3 oj3 hJj3 h
   refine W.keep hJj3 ?_
   refine W.seqOps Aw ?_
   refine W.seqCond (t := decide (x4 < (s1.length : Int))) (by kernel_rfl) h (fun hc h' => ?_) (fun hc h' => ?_)
   ·replace h := h'
    refine W.seqSkip ?_
    refine W.seqPass ?_
    refine W.assoc ?_
    refine W.seqOps Aw ?_
    refine W.assoc ?_
    obtain ⟨x5, hx5, h⟩ := bindS h
    obtain ⟨x6, hx6, h⟩ := bindS h
    refine W.seqOps (Bw 3 (RunR.dyn (Iw T_api_Hold.pv s1 x4 x5 hx5) (Bw 1 (RunR.cons (Tw (avail_Take_1_ok hx6) tab_nil) (Kw 51 [.ipv (.agg [.int .i64 c2]) 0] (Vb x6) Hw) ((.nil _)))))) ?_
    refine W.seqCond (t := x6) (by kernel_rfl) h (fun hc h' => ?_) (fun hc h' => ?_)
    ·replace h := h'
     refine W.assoc ?_
     refine W.seqOps Aw ?_
     refine W.seqKeep rfl ?_
     cases h
     exact W.seqRet ((outw_out ret_ne (bout_o ret_ne ret_ne' (fun e => by subst e; exact Fw))))
    ·replace h := h'
     refine W.seqSkip ?_
     refine W.ops Aw ?_
     cases h
     exact Ow
   ·replace h := h'
    cases h
    exact W.seqExit ((outw_out exit_ne (bout_x (by (show _ = _); kernel_rfl))))
 ·subst hp
  obtain ⟨⟩ := p
  refine W.seqKeep hsj3 ?_
  refine W.seqOps Aw ?_
  refine W.keep rfl ?_
  cases h
  exact W.ret Fw
 ·subst hp
  exact Option.some.inj h
def Q55r0 : List GOp := [o0 2 (.box (.tmp 0)), o0 3 (.box (.tmp 1)), k0 4 0]
def Q55r1 : List GOp := [f0 5 4 3, l0 6 1 5, f0 7 4 2, l0 8 1 7, o0 9 (.call 0 0 (.cst (.fn 104)) [(.tmp 6), (.tmp 8)] [] []), m0 4 9]
def Q55b : AC := (.seq (.ops Q55r0) (.seq (.ops Q55r1) (.keep [] [(4, false)] [] [.loc 2 0, .loc 3 0] [] .ret)))
def Q55 : Fd := ⟨2, [.tmp 4], [], Q55b⟩
theorem Q55_ag : agreeF Tryz.prog Tryz.f103 Q55 = true := by kernel_rfl
theorem hold_Cover_1_ok {a1 : T_api_Hold} {b2 : T_api_Hold} {r : Int} (h : hold_Cover_1 a1 b2 = some r) : Contract Tryz.prog 103 [.pv (T_api_Hold.pv a1), .pv (T_api_Hold.pv b2)] [] ⟨Vi r, [], []⟩ := by
 refine contract_fin hm Tryz.func103 Q55_ag (by kernel_rfl) ?_
 unfold hold_Cover_1 at h
 refine W.seqOps Aw ?_
 obtain ⟨x3, hx3, h⟩ := bindS h
 refine W.seqOps (Bw 4 (RunR.cons (Tw (cmp_Compare_int_ok hx3) tab_nil) (Kw 104 [] (Vi x3) Hw) Aw)) ?_
 refine W.keep rfl ?_
 cases h
 exact W.ret Fw
def Q6r0 : List GOp := [m0 10 1, q0 11 .add 10 1, m0 8 11]
def Q6r1 : List GOp := [m0 12 8, m0 13 2, p0 14 .lss 12 13]
def Q6r2 : List GOp := [m0 17 8, m0 9 17]
def Q6r3 : List GOp := [m0 18 9, m0 19 1, p0 20 .gtr 18 19, m0 21 20, g0 22 21 true (.mov (.tmp 3)), g0 23 21 true (.mov (.tmp 0)), g0 24 21 true (.mov (.tmp 9)), g0 25 21 true (.idx 9 (.tmp 23) (.tmp 24)), g0 26 21 true (.load true 9 (.tmp 25)), g0 27 21 true (.mov (.tmp 0)), g0 28 21 true (.mov (.tmp 9)), g0 29 21 true (.bin false .sub (.tmp 28) (.cst (.int .i64 1))), g0 30 21 true (.idx 9 (.tmp 27) (.tmp 29)), g0 31 21 true (.load true 9 (.tmp 30)), g0 32 21 true (.call 0 0 (.tmp 22) [(.tmp 26), (.tmp 31)] [] []), g0 33 21 true (.bin false .lss (.tmp 32) (.cst (.int .i64 0))), o0 34 (.pick (.tmp 21) (.tmp 33) (.cst (.bool false)))]
def Q6r4 : List GOp := [m0 37 0, m0 38 9, m0 39 0, m0 40 9, q0 41 .sub 40 1, m0 42 0, m0 43 9, q0 44 .sub 43 1, i0 45 9 42 44, t0 46 9 45, m0 47 0, m0 48 9, i0 49 9 47 48, t0 50 9 49, i0 51 9 37 38, s0 9 51 46, i0 52 9 39 41, s0 9 52 50]
def Q6r5 : List GOp := [m0 35 9, q0 36 .sub 35 1, m0 9 36]
def Q6l6 : AC := (.keep [] [(0, false), (1, false), (2, false), (3, false), (8, false), (9, false)] [(.ext 0, false)] [] [] (.seq (.seq (.draw [] Q6r3) (.cond (.tmp 34) .skip (.exit 2))) (.seq (.pass 3 (.draw [] Q6r4)) (.ops Q6r5))))
def Q6r7 : List GOp := [m0 15 8, q0 16 .add 15 1, m0 8 16]
def Q6l8 : AC := (.keep [] [(0, false), (1, false), (2, false), (3, false), (8, false)] [(.ext 0, false)] [] [] (.seq (.seq (.ops Q6r1) (.cond (.tmp 14) .skip (.keep [] [] [(.ext 0, false)] [] [] (.exit 0)))) (.seq (.pass 1 (.seq (.ops Q6r2) (.block 2 (.loop [0, 1, 2, 3, 8, 9] [] Q6l6)))) (.keep [] [(0, false), (1, false), (2, false), (3, false), (8, false)] [(.ext 0, false)] [] [] (.ops Q6r7)))))
def Q6b : AC := (.seq (.ops Q6r0) (.block 0 (.loop [0, 1, 2, 3, 8] [] Q6l8)))
def Q6 : Fd := ⟨4, [], [], Q6b⟩
theorem Q6_ag : agreeF Tryz.prog Tryz.f146 Q6 = true := by kernel_rfl
theorem slices_insertionSortCmpFunc_Hold_ok {a1 : Int} {b2 : Int} {l3 : List T_api_Hold} {r : List T_api_Hold} (h : slices_insertionSortCmpFunc_Hold a1 b2 l3 = some r) : Contract Tryz.prog 146 [.own (.ext 0), Vi a1, Vi b2, .pv (.fn 103)] [.row 9 (List.map T_api_Hold.pv l3)] ⟨.tup [], [], [(some (.row 9 (List.map T_api_Hold.pv r)))]⟩ := by
 refine contract_fin hm Tryz.func146 Q6_ag (by kernel_rfl) ?_
 unfold slices_insertionSortCmpFunc_Hold at h
 refine W.seqOps Aw ?_
 obtain ⟨j4, hj4, h⟩ := bindS h
 refine W.mono (Q := NormW (fun p σ => σ = ⟨[], [(.ext 0, .row 9 (List.map T_api_Hold.pv p))]⟩) j4) ?_ (fun ex σj4 hp => ?_)
 ·refine W.blockLoop (fun q σ => ((σ.forget [0, 1, 2, 3, 8]).killAll []).tidy [] [(0, false), (1, false), (2, false), (3, false), (8, false)] [(.ext 0, false)] [] [] = ⟨[(0, .own (.ext 0)), (1, Vi a1), (2, Vi b2), (3, .pv (.fn 103)), (8, Vi q.1)], [(.ext 0, .row 9 (List.map T_api_Hold.pv q.2))]⟩) hj4 ?_ ?_
  ·show _ = _
   kernel_rfl
  ·intro q σj4 oj4 hJj4 h
   obtain ⟨i5, row6⟩ := q
   refine W.keep hJj4 ?_
   refine W.assoc ?_
   refine W.seqOps Aw ?_
   refine W.seqCond (t := decide (i5 < b2)) (by kernel_rfl) h (fun hc h' => ?_) (fun hc h' => ?_)
   ·replace h := h'
    refine W.seqSkip ?_
    refine W.seqPass ?_
    refine W.assoc ?_
    refine W.seqOps Aw ?_
    obtain ⟨j7, hj7, h⟩ := bindS h
    refine W.join (j := j7) (fun p σ => σ.tidy [] [(0, false), (1, false), (2, false), (3, false), (8, false)] [(.ext 0, false)] [] [] = ⟨[(0, .own (.ext 0)), (1, Vi a1), (2, Vi b2), (3, .pv (.fn 103)), (8, Vi i5)], [(.ext 0, .row 9 (List.map T_api_Hold.pv p))]⟩) ?_ (fun σj7 hsj7 => ?_)
    ·refine W.blockLoop (fun q σ => ((σ.forget [0, 1, 2, 3, 8, 9]).killAll []).tidy [] [(0, false), (1, false), (2, false), (3, false), (8, false), (9, false)] [(.ext 0, false)] [] [] = ⟨[(0, .own (.ext 0)), (1, Vi a1), (2, Vi b2), (3, .pv (.fn 103)), (8, Vi i5), (9, Vi q.1)], [(.ext 0, .row 9 (List.map T_api_Hold.pv q.2))]⟩) hj7 ?_ ?_
     ·show _ = _
      kernel_rfl
     ·intro q σj7 oj7 hJj7 h
      obtain ⟨j8, row9⟩ := q
      refine W.keep hJj7 ?_
      refine W.assoc ?_
      obtain ⟨c10, hc10, h⟩ := bindS h
      obtain ⟨x11, hx11, h⟩ := bindS h
      obtain ⟨x12, hx12, h⟩ := bindS h
      obtain ⟨x13, hx13, h⟩ := bindS h
      refine W.seqDraw (tab_cons (on := c10) (fun hg => hold_Cover_1_ok (gdO_at hg hx13)) tab_nil) (Dw 3 (Run.dyn (Nw (decide (j8 > a1)) c10 hc10) (Run.puts 3 [(24, (Bf c10 (Vi j8))), (23, (Bf c10 (.own (.ext 0)))), (22, (Bf c10 (.pv (.fn 103))))] (by cases c10 <;> kernel_rfl) (Run.dyn (Step.gdG c10 (by kernel_rfl) (by
         cases c10
         ·exact .inl ⟨by kernel_rfl, by kernel_rfl⟩
         ·exact .inr ⟨by kernel_rfl, by kernel_rfl, Step.idxOwnT (k := .ext 0) (f := T_api_Hold.pv) (l := row9) (n := j8) (e := x11) (kd := .i64) (by kernel_rfl) (by kernel_rfl) (by kernel_rfl) hx11⟩)) (Run.dyn (Step.gdG c10 (by kernel_rfl) (by
         cases c10
         ·exact .inl ⟨by kernel_rfl, by kernel_rfl⟩
         ·exact .inr ⟨by kernel_rfl, by kernel_rfl, Step.loadRowT (off := 0) (k := .ext 0) (f := T_api_Hold.pv) (l := row9) (i := j8) (e := x11) (sz := 9) (v := .pv (T_api_Hold.pv x11)) (by kernel_rfl) (by kernel_rfl) hx11 (by kernel_rfl) (by kernel_rfl)⟩)) (Run.puts 3 [(29, (Bf c10 (Vi (IntKind.wrap .i64 (j8 - 1))))), (28, (Bf c10 (Vi j8))), (27, (Bf c10 (.own (.ext 0))))] (by cases c10 <;> kernel_rfl) (Run.dyn (Step.gdG c10 (by kernel_rfl) (by
         cases c10
         ·exact .inl ⟨by kernel_rfl, by kernel_rfl⟩
         ·exact .inr ⟨by kernel_rfl, by kernel_rfl, Step.idxOwnT (k := .ext 0) (f := T_api_Hold.pv) (l := row9) (n := IntKind.wrap .i64 (j8 - 1)) (e := x12) (kd := .i64) (by kernel_rfl) (by kernel_rfl) (by kernel_rfl) hx12⟩)) (Run.dyn (Step.gdG c10 (by kernel_rfl) (by
         cases c10
         ·exact .inl ⟨by kernel_rfl, by kernel_rfl⟩
         ·exact .inr ⟨by kernel_rfl, by kernel_rfl, Step.loadRowT (off := 0) (k := .ext 0) (f := T_api_Hold.pv) (l := row9) (i := IntKind.wrap .i64 (j8 - 1)) (e := x12) (sz := 9) (v := .pv (T_api_Hold.pv x12)) (by kernel_rfl) (by kernel_rfl) hx12 (by kernel_rfl) (by kernel_rfl)⟩)) (Run.dyn (Step.gdG c10 (by kernel_rfl) (by
         cases c10
         ·exact .inl ⟨by kernel_rfl, by kernel_rfl⟩
         ·exact .inr ⟨by kernel_rfl, by kernel_rfl, Kw 103 [] (Vi x13) Hw⟩)) (Run.puts 2 [(34, Vb (c10 && (decide (x13 < 0)))), (33, (Bf c10 (Vb (decide (x13 < 0)))))] (by cases c10 <;> kernel_rfl) ((Run.nil)))))))))))) ?_
      refine W.seqCond (t := (c10 && (decide (x13 < 0)))) (by kernel_rfl) h (fun hc h' => ?_) (fun hc h' => ?_)
      ·replace h := h'
       refine W.seqSkip ?_
       refine W.seqPass ?_
       obtain ⟨x14, hx14, h⟩ := bindS h
       obtain ⟨x15, hx15, h⟩ := bindS h
       obtain ⟨x16, hx16, h⟩ := bindS h
       obtain ⟨x17, hx17, h⟩ := bindS h
       refine W.seqDraw tab_nil (Dw 8 (Run.dyn (Step.idxOwnT (k := .ext 0) (f := T_api_Hold.pv) (l := row9) (n := IntKind.wrap .i64 (j8 - 1)) (e := x14) (kd := .i64) (by kernel_rfl) (by kernel_rfl) (by kernel_rfl) hx14) (Run.dyn (Step.loadRowT (off := 0) (k := .ext 0) (f := T_api_Hold.pv) (l := row9) (i := IntKind.wrap .i64 (j8 - 1)) (e := x14) (sz := 9) (v := .pv (T_api_Hold.pv x14)) (by kernel_rfl) (by kernel_rfl) hx14 (by kernel_rfl) (by kernel_rfl)) (Dw 2 (Run.dyn (Step.idxOwnT (k := .ext 0) (f := T_api_Hold.pv) (l := row9) (n := j8) (e := x15) (kd := .i64) (by kernel_rfl) (by kernel_rfl) (by kernel_rfl) hx15) (Run.dyn (Step.loadRowT (off := 0) (k := .ext 0) (f := T_api_Hold.pv) (l := row9) (i := j8) (e := x15) (sz := 9) (v := .pv (T_api_Hold.pv x15)) (by kernel_rfl) (by kernel_rfl) hx15 (by kernel_rfl) (by kernel_rfl)) (Run.dyn (Step.idxOwnT (k := .ext 0) (f := T_api_Hold.pv) (l := row9) (n := j8) (e := x16) (kd := .i64) (by kernel_rfl) (by kernel_rfl) (by kernel_rfl) hx16) (Run.dyn (Step.storeRowT (sz := 9) (off := 0) (k := .ext 0) (f := T_api_Hold.pv) (l := row9) (i := j8) (e := x16) (e' := x14) (v := (T_api_Hold.pv x14)) (by kernel_rfl) (by kernel_rfl) (by kernel_rfl) hx16 (by kernel_rfl) (by kernel_rfl)) (Run.dyn (Step.idxOwnT (k := .ext 0) (f := T_api_Hold.pv) (l := (List.set row9 (Int.toNat j8) x14)) (n := IntKind.wrap .i64 (j8 - 1)) (e := x17) (kd := .i64) (by kernel_rfl) (by kernel_rfl) (by kernel_rfl) hx17) (Run.dyn (Step.storeRowT (sz := 9) (off := 0) (k := .ext 0) (f := T_api_Hold.pv) (l := (List.set row9 (Int.toNat j8) x14)) (i := IntKind.wrap .i64 (j8 - 1)) (e := x17) (e' := x15) (v := (T_api_Hold.pv x15)) (by kernel_rfl) (by kernel_rfl) (by kernel_rfl) hx17 (by kernel_rfl) (by kernel_rfl)) ((Run.nil)))))))))))) ?_
       refine W.ops Aw ?_
       cases h
       exact Ow
      ·replace h := h'
       cases h
       exact W.seqExit ((outw_out exit_ne (bnorm_x (by (show _ = _); kernel_rfl))))
    ·refine W.keep hsj7 ?_
     refine W.ops Aw ?_
     cases h
     exact Ow
   ·replace h := h'
    refine W.seqKeep rfl ?_
    cases h
    exact W.seqExit ((outw_out exit_ne (bnorm_x (by (show _ = _); kernel_rfl))))
 ·obtain ⟨rfl, hs⟩ := hp
  subst hs
  cases h
  exact (fin_norm (by kernel_rfl))
def Q15r0 : List GOp := [k0 10 0]
def Q15r1 : List GOp := [m0 11 10, m0 12 3, p0 13 .lss 11 12]
def Q15r2 : List GOp := [m0 16 0, m0 17 1, m0 18 10, p0 19 .add 17 18, m0 20 0, m0 21 2, m0 22 10, p0 23 .add 21 22, m0 24 0, m0 25 2, m0 26 10, p0 27 .add 25 26, i0 28 9 24 27, t0 29 9 28, m0 30 0, m0 31 1, m0 32 10, p0 33 .add 31 32, i0 34 9 30 33, t0 35 9 34, i0 36 9 16 19, s0 9 36 29, i0 37 9 20 23, s0 9 37 35]
def Q15r3 : List GOp := [m0 14 10, q0 15 .add 14 1, m0 10 15]
def Q15l4 : AC := (.keep [] [(0, false), (1, false), (2, false), (3, false), (10, false)] [(.ext 0, false)] [] [] (.seq (.seq (.ops Q15r1) (.cond (.tmp 13) .skip (.keep [] [] [(.ext 0, false)] [] [] (.exit 0)))) (.seq (.pass 1 (.draw [] Q15r2)) (.ops Q15r3))))
def Q15b : AC := (.seq (.ops Q15r0) (.block 0 (.loop [0, 1, 2, 3, 10] [] Q15l4)))
def Q15 : Fd := ⟨5, [], [], Q15b⟩
theorem Q15_ag : agreeF Tryz.prog Tryz.f153 Q15 = true := by kernel_rfl
theorem slices_swapRangeCmpFunc_Hold_ok {a1 : Int} {b2 : Int} {n3 : Int} {l4 : List T_api_Hold} {r : List T_api_Hold} (h : slices_swapRangeCmpFunc_Hold a1 b2 n3 l4 = some r) : Contract Tryz.prog 153 [.own (.ext 0), Vi a1, Vi b2, Vi n3, .pv (.fn 103)] [.row 9 (List.map T_api_Hold.pv l4)] ⟨.tup [], [], [(some (.row 9 (List.map T_api_Hold.pv r)))]⟩ := by
 refine contract_fin hm Tryz.func153 Q15_ag (by kernel_rfl) ?_
 unfold slices_swapRangeCmpFunc_Hold at h
 refine W.seqOps Aw ?_
 obtain ⟨j5, hj5, h⟩ := bindS h
 refine W.mono (Q := NormW (fun p σ => σ = ⟨[], [(.ext 0, .row 9 (List.map T_api_Hold.pv p))]⟩) j5) ?_ (fun ex σj5 hp => ?_)
 ·refine W.blockLoop (fun q σ => ((σ.forget [0, 1, 2, 3, 10]).killAll []).tidy [] [(0, false), (1, false), (2, false), (3, false), (10, false)] [(.ext 0, false)] [] [] = ⟨[(0, .own (.ext 0)), (1, Vi a1), (2, Vi b2), (3, Vi n3), (10, Vi q.1)], [(.ext 0, .row 9 (List.map T_api_Hold.pv q.2))]⟩) hj5 ?_ ?_
  ·show _ = _
   kernel_rfl
  ·intro q σj5 oj5 hJj5 h
   obtain ⟨i6, row7⟩ := q
   refine W.keep hJj5 ?_
   refine W.assoc ?_
   refine W.seqOps Aw ?_
   refine W.seqCond (t := decide (i6 < n3)) (by kernel_rfl) h (fun hc h' => ?_) (fun hc h' => ?_)
   ·replace h := h'
    refine W.seqSkip ?_
    refine W.seqPass ?_
    obtain ⟨x8, hx8, h⟩ := bindS h
    obtain ⟨x9, hx9, h⟩ := bindS h
    obtain ⟨x10, hx10, h⟩ := bindS h
    obtain ⟨x11, hx11, h⟩ := bindS h
    refine W.seqDraw tab_nil (Dw 12 (Run.dyn (Step.idxOwnT (k := .ext 0) (f := T_api_Hold.pv) (l := row7) (n := IntKind.wrap .i64 (b2 + i6)) (e := x8) (kd := .i64) (by kernel_rfl) (by kernel_rfl) (by kernel_rfl) hx8) (Run.dyn (Step.loadRowT (off := 0) (k := .ext 0) (f := T_api_Hold.pv) (l := row7) (i := IntKind.wrap .i64 (b2 + i6)) (e := x8) (sz := 9) (v := .pv (T_api_Hold.pv x8)) (by kernel_rfl) (by kernel_rfl) hx8 (by kernel_rfl) (by kernel_rfl)) (Dw 4 (Run.dyn (Step.idxOwnT (k := .ext 0) (f := T_api_Hold.pv) (l := row7) (n := IntKind.wrap .i64 (a1 + i6)) (e := x9) (kd := .i64) (by kernel_rfl) (by kernel_rfl) (by kernel_rfl) hx9) (Run.dyn (Step.loadRowT (off := 0) (k := .ext 0) (f := T_api_Hold.pv) (l := row7) (i := IntKind.wrap .i64 (a1 + i6)) (e := x9) (sz := 9) (v := .pv (T_api_Hold.pv x9)) (by kernel_rfl) (by kernel_rfl) hx9 (by kernel_rfl) (by kernel_rfl)) (Run.dyn (Step.idxOwnT (k := .ext 0) (f := T_api_Hold.pv) (l := row7) (n := IntKind.wrap .i64 (a1 + i6)) (e := x10) (kd := .i64) (by kernel_rfl) (by kernel_rfl) (by kernel_rfl) hx10) (Run.dyn (Step.storeRowT (sz := 9) (off := 0) (k := .ext 0) (f := T_api_Hold.pv) (l := row7) (i := IntKind.wrap .i64 (a1 + i6)) (e := x10) (e' := x8) (v := (T_api_Hold.pv x8)) (by kernel_rfl) (by kernel_rfl) (by kernel_rfl) hx10 (by kernel_rfl) (by kernel_rfl)) (Run.dyn (Step.idxOwnT (k := .ext 0) (f := T_api_Hold.pv) (l := (List.set row7 (Int.toNat (IntKind.wrap .i64 (a1 + i6))) x8)) (n := IntKind.wrap .i64 (b2 + i6)) (e := x11) (kd := .i64) (by kernel_rfl) (by kernel_rfl) (by kernel_rfl) hx11) (Run.dyn (Step.storeRowT (sz := 9) (off := 0) (k := .ext 0) (f := T_api_Hold.pv) (l := (List.set row7 (Int.toNat (IntKind.wrap .i64 (a1 + i6))) x8)) (i := IntKind.wrap .i64 (b2 + i6)) (e := x11) (e' := x9) (v := (T_api_Hold.pv x9)) (by kernel_rfl) (by kernel_rfl) (by kernel_rfl) hx11 (by kernel_rfl) (by kernel_rfl)) ((Run.nil)))))))))))) ?_
    refine W.ops Aw ?_
    cases h
    exact Ow
   ·replace h := h'
    refine W.seqKeep rfl ?_
    cases h
    exact W.seqExit ((outw_out exit_ne (bnorm_x (by (show _ = _); kernel_rfl))))
 ·obtain ⟨rfl, hs⟩ := hp
  subst hs
  cases h
  exact (fin_norm (by kernel_rfl))
def Q22r0 : List GOp := [m0 12 2, m0 13 1, p0 14 .sub 12 13, m0 10 14]
def Q22r1 : List GOp := [m0 15 3, m0 16 2, p0 17 .sub 15 16, m0 11 17]
def Q22r2 : List GOp := [m0 18 10, m0 19 11, p0 20 .neq 18 19]
def Q22r3 : List GOp := [m0 21 10, m0 22 11, p0 23 .gtr 21 22]
def Q22r4 : List GOp := [m0 24 0, m0 25 2, m0 26 10, p0 27 .sub 25 26, m0 28 2, m0 29 11, m0 30 4, o0 31 (.call 0 2 (.cst (.fn 153)) [(.tmp 24), (.tmp 27), (.tmp 28), (.tmp 29), (.tmp 30)] [] [.ext 0])]
def Q22r5 : List GOp := [m0 32 10, m0 33 11, p0 34 .sub 32 33, m0 10 34]
def Q22r6 : List GOp := [m0 35 0, m0 36 2, m0 37 10, p0 38 .sub 36 37, m0 39 2, m0 40 11, p0 41 .add 39 40, m0 42 10, p0 43 .sub 41 42, m0 44 10, m0 45 4, o0 46 (.call 0 2 (.cst (.fn 153)) [(.tmp 35), (.tmp 38), (.tmp 43), (.tmp 44), (.tmp 45)] [] [.ext 0])]
def Q22r7 : List GOp := [m0 47 11, m0 48 10, p0 49 .sub 47 48, m0 11 49]
def Q22l8 : AC := (.keep [] [(0, false), (2, false), (4, false), (10, false), (11, false)] [(.ext 0, false)] [] [] (.seq (.seq (.ops Q22r2) (.cond (.tmp 20) .skip (.exit 0))) (.pass 1 (.seq (.ops Q22r3) (.cond (.tmp 23) (.seq (.ops Q22r4) (.ops Q22r5)) (.seq (.ops Q22r6) (.ops Q22r7)))))))
def Q22r9 : List GOp := [m0 50 0, m0 51 2, m0 52 10, p0 53 .sub 51 52, m0 54 2, m0 55 10, m0 56 4, o0 57 (.call 0 2 (.cst (.fn 153)) [(.tmp 50), (.tmp 53), (.tmp 54), (.tmp 55), (.tmp 56)] [] [.ext 0])]
def Q22b : AC := (.seq (.ops Q22r0) (.seq (.ops Q22r1) (.seq (.block 0 (.loop [0, 2, 4, 10, 11] [] Q22l8)) (.keep [] [(0, false), (2, false), (4, false), (10, false)] [(.ext 0, false)] [] [] (.ops Q22r9)))))
def Q22 : Fd := ⟨5, [], [], Q22b⟩
theorem Q22_ag : agreeF Tryz.prog Tryz.f152 Q22 = true := by kernel_rfl
theorem slices_rotateCmpFunc_Hold_ok {a1 : Int} {m2 : Int} {b3 : Int} {l4 : List T_api_Hold} {r : List T_api_Hold} (h : slices_rotateCmpFunc_Hold a1 m2 b3 l4 = some r) : Contract Tryz.prog 152 [.own (.ext 0), Vi a1, Vi m2, Vi b3, .pv (.fn 103)] [.row 9 (List.map T_api_Hold.pv l4)] ⟨.tup [], [], [(some (.row 9 (List.map T_api_Hold.pv r)))]⟩ := by
 refine contract_fin hm Tryz.func152 Q22_ag (by kernel_rfl) ?_
 unfold slices_rotateCmpFunc_Hold at h
 refine W.seqOps Aw ?_
 refine W.seqOps Aw ?_
 obtain ⟨j5, hj5, h⟩ := bindS h
 refine W.join (j := j5) (fun p σ => σ.tidy [] [(0, false), (2, false), (4, false), (10, false)] [(.ext 0, false)] [] [] = ⟨[(0, .own (.ext 0)), (2, Vi m2), (4, .pv (.fn 103)), (10, Vi p.1)], [(.ext 0, .row 9 (List.map T_api_Hold.pv p.2))]⟩) ?_ (fun σj5 hsj5 => ?_)
 ·refine W.blockLoop (fun q σ => ((σ.forget [0, 2, 4, 10, 11]).killAll []).tidy [] [(0, false), (2, false), (4, false), (10, false), (11, false)] [(.ext 0, false)] [] [] = ⟨[(0, .own (.ext 0)), (2, Vi m2), (4, .pv (.fn 103)), (10, Vi q.1), (11, Vi q.2.1)], [(.ext 0, .row 9 (List.map T_api_Hold.pv q.2.2))]⟩) hj5 ?_ ?_
  ·show _ = _
   kernel_rfl
  ·intro q σj5 oj5 hJj5 h
   obtain ⟨i6, j7, row8⟩ := q
   refine W.keep hJj5 ?_
   refine W.assoc ?_
   refine W.seqOps Aw ?_
   refine W.seqCond (t := (i6 != j7)) (by kernel_rfl) h (fun hc h' => ?_) (fun hc h' => ?_)
   ·replace h := h'
    refine W.seqSkip ?_
    refine W.pass ?_
    refine W.seqOps Aw ?_
    refine W.condI (t := decide (i6 > j7)) (by kernel_rfl) h (fun hc h' => ?_) (fun hc h' => ?_)
    ·replace h := h'
     obtain ⟨x9, hx9, h⟩ := bindS h
     refine W.seqOps (Bw 7 (RunR.cons (Tw (slices_swapRangeCmpFunc_Hold_ok hx9) tab_nil) (Step.callG (g := 153) (caps := []) (v := .tup []) (ins := []) rfl (by kernel_rfl) (by kernel_rfl) (by kernel_rfl) Hw (by kernel_rfl) (by kernel_rfl)) ((.nil _)))) ?_
     refine W.ops Aw ?_
     cases h
     exact Ow
    ·replace h := h'
     obtain ⟨x10, hx10, h⟩ := bindS h
     refine W.seqOps (Bw 11 (RunR.cons (Tw (slices_swapRangeCmpFunc_Hold_ok hx10) tab_nil) (Step.callG (g := 153) (caps := []) (v := .tup []) (ins := []) rfl (by kernel_rfl) (by kernel_rfl) (by kernel_rfl) Hw (by kernel_rfl) (by kernel_rfl)) ((.nil _)))) ?_
     refine W.ops Aw ?_
     cases h
     exact Ow
   ·replace h := h'
    cases h
    exact W.seqExit ((outw_out exit_ne (bnorm_x (by (show _ = _); kernel_rfl))))
 ·obtain ⟨i11, row12⟩ := j5
  refine W.keep hsj5 ?_
  obtain ⟨x13, hx13, h⟩ := bindS h
  refine W.ops (Bw 7 (RunR.cons (Tw (slices_swapRangeCmpFunc_Hold_ok hx13) tab_nil) (Step.callG (g := 153) (caps := []) (v := .tup []) (ins := []) rfl (by kernel_rfl) (by kernel_rfl) (by kernel_rfl) Hw (by kernel_rfl) (by kernel_rfl)) ((.nil _)))) ?_
  cases h
  exact (fin_norm (by kernel_rfl))
def Q16r0 : List GOp := [m0 25 2, m0 26 1, p0 27 .sub 25 26, q0 28 .eql 27 1]
def Q16r1 : List GOp := [m0 29 2, m0 10 29]
def Q16r2 : List GOp := [m0 30 3, m0 11 30]
def Q16r3 : List GOp := [m0 31 10, m0 32 11, p0 33 .lss 31 32]
def Q16r4 : List GOp := [m0 34 10, m0 35 11, p0 36 .add 34 35, o0 37 (.conv .u64 (.tmp 36)), o0 38 (.bin false .shr (.tmp 37) (.cst (.int .u64 1))), o0 39 (.conv .i64 (.tmp 38)), m0 12 39]
def Q16r5 : List GOp := [m0 40 4, m0 41 0, m0 42 12, i0 43 9 41 42, t0 44 9 43, m0 45 0, m0 46 1, i0 47 9 45 46, t0 48 9 47, o0 49 (.call 0 0 (.tmp 40) [(.tmp 44), (.tmp 48)] [] []), q0 50 .lss 49 0]
def Q16r6 : List GOp := [m0 51 12, q0 52 .add 51 1, m0 10 52]
def Q16r7 : List GOp := [m0 53 12, m0 11 53]
def Q16l8 : AC := (.keep [] [(0, false), (1, false), (4, false), (10, false), (11, false)] [(.ext 0, false)] [] [] (.seq (.seq (.ops Q16r3) (.cond (.tmp 33) .skip (.exit 0))) (.pass 1 (.seq (.ops Q16r4) (.seq (.draw [] Q16r5) (.cond (.tmp 50) (.ops Q16r6) (.ops Q16r7)))))))
def Q16r9 : List GOp := [m0 54 1, m0 13 54]
def Q16r10 : List GOp := [m0 55 13, m0 56 10, q0 57 .sub 56 1, p0 58 .lss 55 57]
def Q16r11 : List GOp := [m0 61 0, m0 62 13, m0 63 0, m0 64 13, q0 65 .add 64 1, m0 66 0, m0 67 13, q0 68 .add 67 1, i0 69 9 66 68, t0 70 9 69, m0 71 0, m0 72 13, i0 73 9 71 72, t0 74 9 73, i0 75 9 61 62, s0 9 75 70, i0 76 9 63 65, s0 9 76 74]
def Q16r12 : List GOp := [m0 59 13, q0 60 .add 59 1, m0 13 60]
def Q16l13 : AC := (.keep [] [(0, false), (10, false), (13, false)] [(.ext 0, false)] [] [] (.seq (.seq (.ops Q16r10) (.cond (.tmp 58) .skip (.exit 2))) (.seq (.pass 3 (.draw [] Q16r11)) (.ops Q16r12))))
def Q16r14 : List GOp := [m0 77 3, m0 78 2, p0 79 .sub 77 78, q0 80 .eql 79 1]
def Q16r15 : List GOp := [m0 81 1, m0 14 81]
def Q16r16 : List GOp := [m0 82 2, m0 15 82]
def Q16r17 : List GOp := [m0 83 14, m0 84 15, p0 85 .lss 83 84]
def Q16r18 : List GOp := [m0 86 14, m0 87 15, p0 88 .add 86 87, o0 89 (.conv .u64 (.tmp 88)), o0 90 (.bin false .shr (.tmp 89) (.cst (.int .u64 1))), o0 91 (.conv .i64 (.tmp 90)), m0 16 91]
def Q16r19 : List GOp := [m0 92 4, m0 93 0, m0 94 2, i0 95 9 93 94, t0 96 9 95, m0 97 0, m0 98 16, i0 99 9 97 98, t0 100 9 99, o0 101 (.call 0 0 (.tmp 92) [(.tmp 96), (.tmp 100)] [] []), q0 102 .lss 101 0, o0 103 (.un .not (.tmp 102))]
def Q16r20 : List GOp := [m0 104 16, q0 105 .add 104 1, m0 14 105]
def Q16r21 : List GOp := [m0 106 16, m0 15 106]
def Q16l22 : AC := (.keep [] [(0, false), (2, false), (4, false), (14, false), (15, false)] [(.ext 0, false)] [] [] (.seq (.seq (.ops Q16r17) (.cond (.tmp 85) .skip (.exit 4))) (.pass 5 (.seq (.ops Q16r18) (.seq (.draw [] Q16r19) (.cond (.tmp 103) (.ops Q16r20) (.ops Q16r21)))))))
def Q16r23 : List GOp := [m0 107 2, m0 17 107]
def Q16r24 : List GOp := [m0 108 17, m0 109 14, p0 110 .gtr 108 109]
def Q16r25 : List GOp := [m0 113 0, m0 114 17, m0 115 0, m0 116 17, q0 117 .sub 116 1, m0 118 0, m0 119 17, q0 120 .sub 119 1, i0 121 9 118 120, t0 122 9 121, m0 123 0, m0 124 17, i0 125 9 123 124, t0 126 9 125, i0 127 9 113 114, s0 9 127 122, i0 128 9 115 117, s0 9 128 126]
def Q16r26 : List GOp := [m0 111 17, q0 112 .sub 111 1, m0 17 112]
def Q16l27 : AC := (.keep [] [(0, false), (14, false), (17, false)] [(.ext 0, false)] [] [] (.seq (.seq (.ops Q16r24) (.cond (.tmp 110) .skip (.exit 6))) (.seq (.pass 7 (.draw [] Q16r25)) (.ops Q16r26))))
def Q16r28 : List GOp := [m0 129 1, m0 130 3, p0 131 .add 129 130, o0 132 (.conv .u64 (.tmp 131)), o0 133 (.bin false .shr (.tmp 132) (.cst (.int .u64 1))), o0 134 (.conv .i64 (.tmp 133)), m0 18 134]
def Q16r29 : List GOp := [m0 135 18, m0 136 2, p0 137 .add 135 136, m0 19 137]
def Q16r30 : List GOp := [k0 20 0, k0 21 0]
def Q16r31 : List GOp := [m0 138 2, m0 139 18, p0 140 .gtr 138 139]
def Q16r32 : List GOp := [m0 141 19, m0 142 3, p0 143 .sub 141 142, m0 20 143]
def Q16r33 : List GOp := [m0 144 18, m0 21 144]
def Q16r34 : List GOp := [m0 145 1, m0 20 145]
def Q16r35 : List GOp := [m0 146 2, m0 21 146]
def Q16r36 : List GOp := [m0 147 19, q0 148 .sub 147 1, m0 22 148]
def Q16r37 : List GOp := [m0 149 20, m0 150 21, p0 151 .lss 149 150]
def Q16r38 : List GOp := [m0 152 20, m0 153 21, p0 154 .add 152 153, o0 155 (.conv .u64 (.tmp 154)), o0 156 (.bin false .shr (.tmp 155) (.cst (.int .u64 1))), o0 157 (.conv .i64 (.tmp 156)), m0 23 157]
def Q16r39 : List GOp := [m0 158 4, m0 159 0, m0 160 22, m0 161 23, p0 162 .sub 160 161, i0 163 9 159 162, t0 164 9 163, m0 165 0, m0 166 23, i0 167 9 165 166, t0 168 9 167, o0 169 (.call 0 0 (.tmp 158) [(.tmp 164), (.tmp 168)] [] []), q0 170 .lss 169 0, o0 171 (.un .not (.tmp 170))]
def Q16r40 : List GOp := [m0 172 23, q0 173 .add 172 1, m0 20 173]
def Q16r41 : List GOp := [m0 174 23, m0 21 174]
def Q16l42 : AC := (.keep [] [(0, false), (1, false), (2, false), (3, false), (4, false), (18, false), (19, false), (20, false), (21, false), (22, false)] [(.ext 0, false)] [] [] (.seq (.seq (.ops Q16r37) (.cond (.tmp 151) .skip (.exit 8))) (.pass 9 (.seq (.ops Q16r38) (.seq (.draw [] Q16r39) (.cond (.tmp 171) (.ops Q16r40) (.ops Q16r41)))))))
def Q16r43 : List GOp := [m0 175 19, m0 176 20, p0 177 .sub 175 176, m0 24 177]
def Q16r44 : List GOp := [m0 178 20, m0 179 2, p0 180 .lss 178 179, m0 181 180, g0 182 181 true (.mov (.tmp 2)), g0 183 181 true (.mov (.tmp 24)), g0 184 181 true (.bin false .lss (.tmp 182) (.tmp 183)), o0 185 (.pick (.tmp 181) (.tmp 184) (.cst (.bool false)))]
def Q16r45 : List GOp := [m0 186 0, m0 187 20, m0 188 2, m0 189 24, m0 190 4, o0 191 (.call 0 2 (.cst (.fn 152)) [(.tmp 186), (.tmp 187), (.tmp 188), (.tmp 189), (.tmp 190)] [] [.ext 0])]
def Q16r46 : List GOp := [m0 192 1, m0 193 20, p0 194 .lss 192 193, m0 195 194, g0 196 195 true (.mov (.tmp 20)), g0 197 195 true (.mov (.tmp 18)), g0 198 195 true (.bin false .lss (.tmp 196) (.tmp 197)), o0 199 (.pick (.tmp 195) (.tmp 198) (.cst (.bool false)))]
def Q16r47 : List GOp := [m0 200 0, m0 201 1, m0 202 20, m0 203 18, m0 204 4, o0 205 (.call 0 2 (.cst (.fn 147)) [(.tmp 200), (.tmp 201), (.tmp 202), (.tmp 203), (.tmp 204)] [] [.ext 0])]
def Q16r48 : List GOp := [m0 206 18, m0 207 24, p0 208 .lss 206 207, m0 209 208, g0 210 209 true (.mov (.tmp 24)), g0 211 209 true (.mov (.tmp 3)), g0 212 209 true (.bin false .lss (.tmp 210) (.tmp 211)), o0 213 (.pick (.tmp 209) (.tmp 212) (.cst (.bool false)))]
def Q16r49 : List GOp := [m0 214 0, m0 215 18, m0 216 24, m0 217 3, m0 218 4, o0 219 (.call 0 2 (.cst (.fn 147)) [(.tmp 214), (.tmp 215), (.tmp 216), (.tmp 217), (.tmp 218)] [] [.ext 0])]
def Q16b : AC := (.seq (.seq (.ops Q16r0) (.cond (.tmp 28) (.seq (.ops Q16r1) (.seq (.ops Q16r2) (.seq (.block 0 (.loop [0, 1, 4, 10, 11] [] Q16l8)) (.seq (.seq (.keep [] [(0, false), (1, false), (10, false)] [(.ext 0, false)] [] [] (.ops Q16r9)) (.block 2 (.loop [0, 10, 13] [] Q16l13))) (.keep [] [] [(.ext 0, false)] [] [] (.keep [] [] [(.ext 0, false)] [] [] .ret)))))) .skip)) (.seq (.seq (.ops Q16r14) (.cond (.tmp 80) (.seq (.ops Q16r15) (.seq (.ops Q16r16) (.seq (.block 4 (.loop [0, 2, 4, 14, 15] [] Q16l22)) (.seq (.seq (.keep [] [(0, false), (2, false), (14, false)] [(.ext 0, false)] [] [] (.ops Q16r23)) (.block 6 (.loop [0, 14, 17] [] Q16l27))) (.keep [] [] [(.ext 0, false)] [] [] (.keep [] [] [(.ext 0, false)] [] [] .ret)))))) .skip)) (.seq (.ops Q16r28) (.seq (.ops Q16r29) (.seq (.ops Q16r30) (.seq (.seq (.ops Q16r31) (.cond (.tmp 140) (.seq (.ops Q16r32) (.ops Q16r33)) (.seq (.ops Q16r34) (.ops Q16r35)))) (.seq (.keep [] [(0, false), (1, false), (2, false), (3, false), (4, false), (18, false), (19, false), (20, false), (21, false)] [(.ext 0, false)] [] [] (.ops Q16r36)) (.seq (.block 8 (.loop [0, 1, 2, 3, 4, 18, 19, 20, 21, 22] [] Q16l42)) (.seq (.keep [] [(0, false), (1, false), (2, false), (3, false), (4, false), (18, false), (19, false), (20, false)] [(.ext 0, false)] [] [] (.ops Q16r43)) (.seq (.seq (.ops Q16r44) (.cond (.tmp 185) (.ops Q16r45) .skip)) (.seq (.seq (.keep [] [(0, false), (1, false), (3, false), (4, false), (18, false), (20, false), (24, false)] [(.ext 0, false)] [] [] (.ops Q16r46)) (.cond (.tmp 199) (.ops Q16r47) .skip)) (.seq (.keep [] [(0, false), (3, false), (4, false), (18, false), (24, false)] [(.ext 0, false)] [] [] (.ops Q16r48)) (.cond (.tmp 213) (.ops Q16r49) .skip)))))))))))))
def Q16 : Fd := ⟨5, [], [], Q16b⟩
theorem Q16_ag : agreeF Tryz.prog Tryz.f147 Q16 = true := by kernel_rfl
theorem slices_symMergeCmpFunc_Hold_ok {fuel : Nat} {a1 : Int} {m2 : Int} {b3 : Int} {l4 : List T_api_Hold} {r : List T_api_Hold} (h : slices_symMergeCmpFunc_Hold fuel a1 m2 b3 l4 = some r) : Contract Tryz.prog 147 [.own (.ext 0), Vi a1, Vi m2, Vi b3, .pv (.fn 103)] [.row 9 (List.map T_api_Hold.pv l4)] ⟨.tup [], [], [(some (.row 9 (List.map T_api_Hold.pv r)))]⟩ := by
 induction fuel generalizing a1 m2 b3 l4 r with
 | zero => unfold slices_symMergeCmpFunc_Hold at h; cases h
 | succ fuel ih =>
  refine contract_fin hm Tryz.func147 Q16_ag (by kernel_rfl) ?_
  unfold slices_symMergeCmpFunc_Hold at h
  refine W.assoc ?_
  refine W.seqOps Aw ?_
  refine W.seqCond (t := ((IntKind.wrap .i64 (m2 - a1)) == 1)) (by kernel_rfl) h (fun hc h' => ?_) (fun hc h' => ?_)
  ·replace h := h'
   refine W.assoc ?_
   refine W.seqOps Aw ?_
   refine W.assoc ?_
   refine W.seqOps Aw ?_
   refine W.assoc ?_
   obtain ⟨j5, hj5, h⟩ := bindS h
   refine W.join (j := j5) (fun p σ => σ.tidy [] [(0, false), (1, false), (10, false)] [(.ext 0, false)] [] [] = ⟨[(0, .own (.ext 0)), (1, Vi a1), (10, Vi p)], [(.ext 0, .row 9 (List.map T_api_Hold.pv l4))]⟩) ?_ (fun σj5 hsj5 => ?_)
   ·refine W.blockLoop (fun q σ => ((σ.forget [0, 1, 4, 10, 11]).killAll []).tidy [] [(0, false), (1, false), (4, false), (10, false), (11, false)] [(.ext 0, false)] [] [] = ⟨[(0, .own (.ext 0)), (1, Vi a1), (4, .pv (.fn 103)), (10, Vi q.1), (11, Vi q.2)], [(.ext 0, .row 9 (List.map T_api_Hold.pv l4))]⟩) hj5 ?_ ?_
    ·show _ = _
     kernel_rfl
    ·intro q σj5 oj5 hJj5 h
     obtain ⟨i6, j7⟩ := q
     refine W.keep hJj5 ?_
     refine W.assoc ?_
     refine W.seqOps Aw ?_
     refine W.seqCond (t := decide (i6 < j7)) (by kernel_rfl) h (fun hc h' => ?_) (fun hc h' => ?_)
     ·replace h := h'
      refine W.seqSkip ?_
      refine W.pass ?_
      refine W.seqOps Aw ?_
      obtain ⟨x8, hx8, h⟩ := bindS h
      obtain ⟨x9, hx9, h⟩ := bindS h
      obtain ⟨x10, hx10, h⟩ := bindS h
      refine W.seqDraw (Tw (hold_Cover_1_ok hx10) tab_nil) (Dw 3 (Run.dyn (Step.idxOwnT (k := .ext 0) (f := T_api_Hold.pv) (l := l4) (n := IntKind.wrap .i64 (Int.fdiv (IntKind.wrap .u64 (IntKind.wrap .i64 (i6 + j7))) 2)) (e := x8) (kd := .i64) (by kernel_rfl) (by kernel_rfl) (by kernel_rfl) hx8) (Run.dyn (Step.loadRowT (off := 0) (k := .ext 0) (f := T_api_Hold.pv) (l := l4) (i := IntKind.wrap .i64 (Int.fdiv (IntKind.wrap .u64 (IntKind.wrap .i64 (i6 + j7))) 2)) (e := x8) (sz := 9) (v := .pv (T_api_Hold.pv x8)) (by kernel_rfl) (by kernel_rfl) hx8 (by kernel_rfl) (by kernel_rfl)) (Dw 2 (Run.dyn (Step.idxOwnT (k := .ext 0) (f := T_api_Hold.pv) (l := l4) (n := a1) (e := x9) (kd := .i64) (by kernel_rfl) (by kernel_rfl) (by kernel_rfl) hx9) (Run.dyn (Step.loadRowT (off := 0) (k := .ext 0) (f := T_api_Hold.pv) (l := l4) (i := a1) (e := x9) (sz := 9) (v := .pv (T_api_Hold.pv x9)) (by kernel_rfl) (by kernel_rfl) hx9 (by kernel_rfl) (by kernel_rfl)) (Run.dyn (Kw 103 [] (Vi x10) Hw) Cw))))))) ?_
      refine W.condI (t := decide (x10 < 0)) (by kernel_rfl) h (fun hc h' => ?_) (fun hc h' => ?_)
      ·replace h := h'
       refine W.ops Aw ?_
       cases h
       exact Ow
      ·replace h := h'
       refine W.ops Aw ?_
       cases h
       exact Ow
     ·replace h := h'
      cases h
      exact W.seqExit ((outw_out exit_ne (bnorm_x (by (show _ = _); kernel_rfl))))
   ·refine W.assoc ?_
    refine W.assoc ?_
    refine W.seqKeep hsj5 ?_
    refine W.seqOps Aw ?_
    obtain ⟨j12, hj12, h⟩ := bindS h
    refine W.join (j := j12) (fun p σ => σ.tidy [] [] [(.ext 0, false)] [] [] = ⟨[], [(.ext 0, .row 9 (List.map T_api_Hold.pv p))]⟩) ?_ (fun σj12 hsj12 => ?_)
    ·refine W.blockLoop (fun q σ => ((σ.forget [0, 10, 13]).killAll []).tidy [] [(0, false), (10, false), (13, false)] [(.ext 0, false)] [] [] = ⟨[(0, .own (.ext 0)), (10, Vi j5), (13, Vi q.1)], [(.ext 0, .row 9 (List.map T_api_Hold.pv q.2))]⟩) hj12 ?_ ?_
     ·show _ = _
      kernel_rfl
     ·intro q σj12 oj12 hJj12 h
      obtain ⟨k13, row14⟩ := q
      refine W.keep hJj12 ?_
      refine W.assoc ?_
      refine W.seqOps Aw ?_
      refine W.seqCond (t := decide (k13 < (IntKind.wrap .i64 (j5 - 1)))) (by kernel_rfl) h (fun hc h' => ?_) (fun hc h' => ?_)
      ·replace h := h'
       refine W.seqSkip ?_
       refine W.seqPass ?_
       obtain ⟨x15, hx15, h⟩ := bindS h
       obtain ⟨x16, hx16, h⟩ := bindS h
       obtain ⟨x17, hx17, h⟩ := bindS h
       obtain ⟨x18, hx18, h⟩ := bindS h
       refine W.seqDraw tab_nil (Dw 8 (Run.dyn (Step.idxOwnT (k := .ext 0) (f := T_api_Hold.pv) (l := row14) (n := IntKind.wrap .i64 (k13 + 1)) (e := x15) (kd := .i64) (by kernel_rfl) (by kernel_rfl) (by kernel_rfl) hx15) (Run.dyn (Step.loadRowT (off := 0) (k := .ext 0) (f := T_api_Hold.pv) (l := row14) (i := IntKind.wrap .i64 (k13 + 1)) (e := x15) (sz := 9) (v := .pv (T_api_Hold.pv x15)) (by kernel_rfl) (by kernel_rfl) hx15 (by kernel_rfl) (by kernel_rfl)) (Dw 2 (Run.dyn (Step.idxOwnT (k := .ext 0) (f := T_api_Hold.pv) (l := row14) (n := k13) (e := x16) (kd := .i64) (by kernel_rfl) (by kernel_rfl) (by kernel_rfl) hx16) (Run.dyn (Step.loadRowT (off := 0) (k := .ext 0) (f := T_api_Hold.pv) (l := row14) (i := k13) (e := x16) (sz := 9) (v := .pv (T_api_Hold.pv x16)) (by kernel_rfl) (by kernel_rfl) hx16 (by kernel_rfl) (by kernel_rfl)) (Run.dyn (Step.idxOwnT (k := .ext 0) (f := T_api_Hold.pv) (l := row14) (n := k13) (e := x17) (kd := .i64) (by kernel_rfl) (by kernel_rfl) (by kernel_rfl) hx17) (Run.dyn (Step.storeRowT (sz := 9) (off := 0) (k := .ext 0) (f := T_api_Hold.pv) (l := row14) (i := k13) (e := x17) (e' := x15) (v := (T_api_Hold.pv x15)) (by kernel_rfl) (by kernel_rfl) (by kernel_rfl) hx17 (by kernel_rfl) (by kernel_rfl)) (Run.dyn (Step.idxOwnT (k := .ext 0) (f := T_api_Hold.pv) (l := (List.set row14 (Int.toNat k13) x15)) (n := IntKind.wrap .i64 (k13 + 1)) (e := x18) (kd := .i64) (by kernel_rfl) (by kernel_rfl) (by kernel_rfl) hx18) (Run.dyn (Step.storeRowT (sz := 9) (off := 0) (k := .ext 0) (f := T_api_Hold.pv) (l := (List.set row14 (Int.toNat k13) x15)) (i := IntKind.wrap .i64 (k13 + 1)) (e := x18) (e' := x16) (v := (T_api_Hold.pv x16)) (by kernel_rfl) (by kernel_rfl) (by kernel_rfl) hx18 (by kernel_rfl) (by kernel_rfl)) ((Run.nil)))))))))))) ?_
       refine W.ops Aw ?_
       cases h
       exact Ow
      ·replace h := h'
       cases h
       exact W.seqExit ((outw_out exit_ne (bnorm_x (by (show _ = _); kernel_rfl))))
    ·refine W.seqKeep hsj12 ?_
     refine W.seqKeep rfl ?_
     cases h
     exact W.seqRet Fw
  ·replace h := h'
   refine W.seqSkip ?_
   refine W.assoc ?_
   refine W.seqOps Aw ?_
   refine W.seqCond (t := ((IntKind.wrap .i64 (b3 - m2)) == 1)) (by kernel_rfl) h (fun hc h' => ?_) (fun hc h' => ?_)
   ·replace h := h'
    refine W.assoc ?_
    refine W.seqOps Aw ?_
    refine W.assoc ?_
    refine W.seqOps Aw ?_
    refine W.assoc ?_
    obtain ⟨j20, hj20, h⟩ := bindS h
    refine W.join (j := j20) (fun p σ => σ.tidy [] [(0, false), (2, false), (14, false)] [(.ext 0, false)] [] [] = ⟨[(0, .own (.ext 0)), (2, Vi m2), (14, Vi p)], [(.ext 0, .row 9 (List.map T_api_Hold.pv l4))]⟩) ?_ (fun σj20 hsj20 => ?_)
    ·refine W.blockLoop (fun q σ => ((σ.forget [0, 2, 4, 14, 15]).killAll []).tidy [] [(0, false), (2, false), (4, false), (14, false), (15, false)] [(.ext 0, false)] [] [] = ⟨[(0, .own (.ext 0)), (2, Vi m2), (4, .pv (.fn 103)), (14, Vi q.1), (15, Vi q.2)], [(.ext 0, .row 9 (List.map T_api_Hold.pv l4))]⟩) hj20 ?_ ?_
     ·show _ = _
      kernel_rfl
     ·intro q σj20 oj20 hJj20 h
      obtain ⟨i21, j22⟩ := q
      refine W.keep hJj20 ?_
      refine W.assoc ?_
      refine W.seqOps Aw ?_
      refine W.seqCond (t := decide (i21 < j22)) (by kernel_rfl) h (fun hc h' => ?_) (fun hc h' => ?_)
      ·replace h := h'
       refine W.seqSkip ?_
       refine W.pass ?_
       refine W.seqOps Aw ?_
       obtain ⟨x23, hx23, h⟩ := bindS h
       obtain ⟨x24, hx24, h⟩ := bindS h
       obtain ⟨x25, hx25, h⟩ := bindS h
       refine W.seqDraw (Tw (hold_Cover_1_ok hx25) tab_nil) (Dw 3 (Run.dyn (Step.idxOwnT (k := .ext 0) (f := T_api_Hold.pv) (l := l4) (n := m2) (e := x23) (kd := .i64) (by kernel_rfl) (by kernel_rfl) (by kernel_rfl) hx23) (Run.dyn (Step.loadRowT (off := 0) (k := .ext 0) (f := T_api_Hold.pv) (l := l4) (i := m2) (e := x23) (sz := 9) (v := .pv (T_api_Hold.pv x23)) (by kernel_rfl) (by kernel_rfl) hx23 (by kernel_rfl) (by kernel_rfl)) (Dw 2 (Run.dyn (Step.idxOwnT (k := .ext 0) (f := T_api_Hold.pv) (l := l4) (n := IntKind.wrap .i64 (Int.fdiv (IntKind.wrap .u64 (IntKind.wrap .i64 (i21 + j22))) 2)) (e := x24) (kd := .i64) (by kernel_rfl) (by kernel_rfl) (by kernel_rfl) hx24) (Run.dyn (Step.loadRowT (off := 0) (k := .ext 0) (f := T_api_Hold.pv) (l := l4) (i := IntKind.wrap .i64 (Int.fdiv (IntKind.wrap .u64 (IntKind.wrap .i64 (i21 + j22))) 2)) (e := x24) (sz := 9) (v := .pv (T_api_Hold.pv x24)) (by kernel_rfl) (by kernel_rfl) hx24 (by kernel_rfl) (by kernel_rfl)) (Run.dyn (Kw 103 [] (Vi x25) Hw) Cw))))))) ?_
       refine W.condI (t := !(decide (x25 < 0))) (by kernel_rfl) h (fun hc h' => ?_) (fun hc h' => ?_)
       ·replace h := h'
        refine W.ops Aw ?_
        cases h
        exact Ow
       ·replace h := h'
        refine W.ops Aw ?_
        cases h
        exact Ow
      ·replace h := h'
       cases h
       exact W.seqExit ((outw_out exit_ne (bnorm_x (by (show _ = _); kernel_rfl))))
    ·refine W.assoc ?_
     refine W.assoc ?_
     refine W.seqKeep hsj20 ?_
     refine W.seqOps Aw ?_
     obtain ⟨j27, hj27, h⟩ := bindS h
     refine W.join (j := j27) (fun p σ => σ.tidy [] [] [(.ext 0, false)] [] [] = ⟨[], [(.ext 0, .row 9 (List.map T_api_Hold.pv p))]⟩) ?_ (fun σj27 hsj27 => ?_)
     ·refine W.blockLoop (fun q σ => ((σ.forget [0, 14, 17]).killAll []).tidy [] [(0, false), (14, false), (17, false)] [(.ext 0, false)] [] [] = ⟨[(0, .own (.ext 0)), (14, Vi j20), (17, Vi q.1)], [(.ext 0, .row 9 (List.map T_api_Hold.pv q.2))]⟩) hj27 ?_ ?_
      ·show _ = _
       kernel_rfl
      ·intro q σj27 oj27 hJj27 h
       obtain ⟨k28, row29⟩ := q
       refine W.keep hJj27 ?_
       refine W.assoc ?_
       refine W.seqOps Aw ?_
       refine W.seqCond (t := decide (k28 > j20)) (by kernel_rfl) h (fun hc h' => ?_) (fun hc h' => ?_)
       ·replace h := h'
        refine W.seqSkip ?_
        refine W.seqPass ?_
        obtain ⟨x30, hx30, h⟩ := bindS h
        obtain ⟨x31, hx31, h⟩ := bindS h
        obtain ⟨x32, hx32, h⟩ := bindS h
        obtain ⟨x33, hx33, h⟩ := bindS h
        refine W.seqDraw tab_nil (Dw 8 (Run.dyn (Step.idxOwnT (k := .ext 0) (f := T_api_Hold.pv) (l := row29) (n := IntKind.wrap .i64 (k28 - 1)) (e := x30) (kd := .i64) (by kernel_rfl) (by kernel_rfl) (by kernel_rfl) hx30) (Run.dyn (Step.loadRowT (off := 0) (k := .ext 0) (f := T_api_Hold.pv) (l := row29) (i := IntKind.wrap .i64 (k28 - 1)) (e := x30) (sz := 9) (v := .pv (T_api_Hold.pv x30)) (by kernel_rfl) (by kernel_rfl) hx30 (by kernel_rfl) (by kernel_rfl)) (Dw 2 (Run.dyn (Step.idxOwnT (k := .ext 0) (f := T_api_Hold.pv) (l := row29) (n := k28) (e := x31) (kd := .i64) (by kernel_rfl) (by kernel_rfl) (by kernel_rfl) hx31) (Run.dyn (Step.loadRowT (off := 0) (k := .ext 0) (f := T_api_Hold.pv) (l := row29) (i := k28) (e := x31) (sz := 9) (v := .pv (T_api_Hold.pv x31)) (by kernel_rfl) (by kernel_rfl) hx31 (by kernel_rfl) (by kernel_rfl)) (Run.dyn (Step.idxOwnT (k := .ext 0) (f := T_api_Hold.pv) (l := row29) (n := k28) (e := x32) (kd := .i64) (by kernel_rfl) (by kernel_rfl) (by kernel_rfl) hx32) (Run.dyn (Step.storeRowT (sz := 9) (off := 0) (k := .ext 0) (f := T_api_Hold.pv) (l := row29) (i := k28) (e := x32) (e' := x30) (v := (T_api_Hold.pv x30)) (by kernel_rfl) (by kernel_rfl) (by kernel_rfl) hx32 (by kernel_rfl) (by kernel_rfl)) (Run.dyn (Step.idxOwnT (k := .ext 0) (f := T_api_Hold.pv) (l := (List.set row29 (Int.toNat k28) x30)) (n := IntKind.wrap .i64 (k28 - 1)) (e := x33) (kd := .i64) (by kernel_rfl) (by kernel_rfl) (by kernel_rfl) hx33) (Run.dyn (Step.storeRowT (sz := 9) (off := 0) (k := .ext 0) (f := T_api_Hold.pv) (l := (List.set row29 (Int.toNat k28) x30)) (i := IntKind.wrap .i64 (k28 - 1)) (e := x33) (e' := x31) (v := (T_api_Hold.pv x31)) (by kernel_rfl) (by kernel_rfl) (by kernel_rfl) hx33 (by kernel_rfl) (by kernel_rfl)) ((Run.nil)))))))))))) ?_
        refine W.ops Aw ?_
        cases h
        exact Ow
       ·replace h := h'
        cases h
        exact W.seqExit ((outw_out exit_ne (bnorm_x (by (show _ = _); kernel_rfl))))
     ·refine W.seqKeep hsj27 ?_
      refine W.seqKeep rfl ?_
      cases h
      exact W.seqRet Fw
   ·replace h := h'
    refine W.seqSkip ?_
    refine W.seqOps Aw ?_
    refine W.seqOps Aw ?_
    refine W.seqOps Aw ?_
    refine W.assoc ?_
    refine W.seqOps Aw ?_
    obtain ⟨j35, hj35, h⟩ := bindS h
    refine W.join (j := j35) (fun p σ => σ.tidy [] [(0, false), (1, false), (2, false), (3, false), (4, false), (18, false), (19, false), (20, false), (21, false)] [(.ext 0, false)] [] [] = ⟨[(0, .own (.ext 0)), (1, Vi a1), (2, Vi m2), (3, Vi b3), (4, .pv (.fn 103)), (18, Vi (IntKind.wrap .i64 (Int.fdiv (IntKind.wrap .u64 (IntKind.wrap .i64 (a1 + b3))) 2))), (19, Vi (IntKind.wrap .i64 ((IntKind.wrap .i64 (Int.fdiv (IntKind.wrap .u64 (IntKind.wrap .i64 (a1 + b3))) 2)) + m2))), (20, Vi p.1), (21, Vi p.2)], [(.ext 0, .row 9 (List.map T_api_Hold.pv l4))]⟩) ?_ (fun σj35 hsj35 => ?_)
    ·replace h := hj35
     refine W.condI (t := decide (m2 > (IntKind.wrap .i64 (Int.fdiv (IntKind.wrap .u64 (IntKind.wrap .i64 (a1 + b3))) 2)))) (by kernel_rfl) h (fun hc h' => ?_) (fun hc h' => ?_)
     ·replace h := h'
      refine W.seqOps Aw ?_
      refine W.ops Aw ?_
      cases h
      exact Jw
     ·replace h := h'
      refine W.seqOps Aw ?_
      refine W.ops Aw ?_
      cases h
      exact Jw
    ·obtain ⟨start36, r37⟩ := j35
     refine W.seqKeep hsj35 ?_
     refine W.seqOps Aw ?_
     obtain ⟨j38, hj38, h⟩ := bindS h
     refine W.join (j := j38) (fun p σ => σ.tidy [] [(0, false), (1, false), (2, false), (3, false), (4, false), (18, false), (19, false), (20, false)] [(.ext 0, false)] [] [] = ⟨[(0, .own (.ext 0)), (1, Vi a1), (2, Vi m2), (3, Vi b3), (4, .pv (.fn 103)), (18, Vi (IntKind.wrap .i64 (Int.fdiv (IntKind.wrap .u64 (IntKind.wrap .i64 (a1 + b3))) 2))), (19, Vi (IntKind.wrap .i64 ((IntKind.wrap .i64 (Int.fdiv (IntKind.wrap .u64 (IntKind.wrap .i64 (a1 + b3))) 2)) + m2))), (20, Vi p)], [(.ext 0, .row 9 (List.map T_api_Hold.pv l4))]⟩) ?_ (fun σj38 hsj38 => ?_)
     ·refine W.blockLoop (fun q σ => ((σ.forget [0, 1, 2, 3, 4, 18, 19, 20, 21, 22]).killAll []).tidy [] [(0, false), (1, false), (2, false), (3, false), (4, false), (18, false), (19, false), (20, false), (21, false), (22, false)] [(.ext 0, false)] [] [] = ⟨[(0, .own (.ext 0)), (1, Vi a1), (2, Vi m2), (3, Vi b3), (4, .pv (.fn 103)), (18, Vi (IntKind.wrap .i64 (Int.fdiv (IntKind.wrap .u64 (IntKind.wrap .i64 (a1 + b3))) 2))), (19, Vi (IntKind.wrap .i64 ((IntKind.wrap .i64 (Int.fdiv (IntKind.wrap .u64 (IntKind.wrap .i64 (a1 + b3))) 2)) + m2))), (20, Vi q.1), (21, Vi q.2), (22, Vi (IntKind.wrap .i64 ((IntKind.wrap .i64 ((IntKind.wrap .i64 (Int.fdiv (IntKind.wrap .u64 (IntKind.wrap .i64 (a1 + b3))) 2)) + m2)) - 1)))], [(.ext 0, .row 9 (List.map T_api_Hold.pv l4))]⟩) hj38 ?_ ?_
      ·show _ = _
       kernel_rfl
      ·intro q σj38 oj38 hJj38 h
       obtain ⟨start39, r40⟩ := q
       refine W.keep hJj38 ?_
       refine W.assoc ?_
       refine W.seqOps Aw ?_
       refine W.seqCond (t := decide (start39 < r40)) (by kernel_rfl) h (fun hc h' => ?_) (fun hc h' => ?_)
       ·replace h := h'
        refine W.seqSkip ?_
        refine W.pass ?_
        refine W.seqOps Aw ?_
        obtain ⟨x41, hx41, h⟩ := bindS h
        obtain ⟨x42, hx42, h⟩ := bindS h
        obtain ⟨x43, hx43, h⟩ := bindS h
        refine W.seqDraw (Tw (hold_Cover_1_ok hx43) tab_nil) (Dw 5 (Run.dyn (Step.idxOwnT (k := .ext 0) (f := T_api_Hold.pv) (l := l4) (n := IntKind.wrap .i64 ((IntKind.wrap .i64 ((IntKind.wrap .i64 ((IntKind.wrap .i64 (Int.fdiv (IntKind.wrap .u64 (IntKind.wrap .i64 (a1 + b3))) 2)) + m2)) - 1)) - (IntKind.wrap .i64 (Int.fdiv (IntKind.wrap .u64 (IntKind.wrap .i64 (start39 + r40))) 2)))) (e := x41) (kd := .i64) (by kernel_rfl) (by kernel_rfl) (by kernel_rfl) hx41) (Run.dyn (Step.loadRowT (off := 0) (k := .ext 0) (f := T_api_Hold.pv) (l := l4) (i := IntKind.wrap .i64 ((IntKind.wrap .i64 ((IntKind.wrap .i64 ((IntKind.wrap .i64 (Int.fdiv (IntKind.wrap .u64 (IntKind.wrap .i64 (a1 + b3))) 2)) + m2)) - 1)) - (IntKind.wrap .i64 (Int.fdiv (IntKind.wrap .u64 (IntKind.wrap .i64 (start39 + r40))) 2)))) (e := x41) (sz := 9) (v := .pv (T_api_Hold.pv x41)) (by kernel_rfl) (by kernel_rfl) hx41 (by kernel_rfl) (by kernel_rfl)) (Dw 2 (Run.dyn (Step.idxOwnT (k := .ext 0) (f := T_api_Hold.pv) (l := l4) (n := IntKind.wrap .i64 (Int.fdiv (IntKind.wrap .u64 (IntKind.wrap .i64 (start39 + r40))) 2)) (e := x42) (kd := .i64) (by kernel_rfl) (by kernel_rfl) (by kernel_rfl) hx42) (Run.dyn (Step.loadRowT (off := 0) (k := .ext 0) (f := T_api_Hold.pv) (l := l4) (i := IntKind.wrap .i64 (Int.fdiv (IntKind.wrap .u64 (IntKind.wrap .i64 (start39 + r40))) 2)) (e := x42) (sz := 9) (v := .pv (T_api_Hold.pv x42)) (by kernel_rfl) (by kernel_rfl) hx42 (by kernel_rfl) (by kernel_rfl)) (Run.dyn (Kw 103 [] (Vi x43) Hw) Cw))))))) ?_
        refine W.condI (t := !(decide (x43 < 0))) (by kernel_rfl) h (fun hc h' => ?_) (fun hc h' => ?_)
        ·replace h := h'
         refine W.ops Aw ?_
         cases h
         exact Ow
        ·replace h := h'
         refine W.ops Aw ?_
         cases h
         exact Ow
       ·replace h := h'
        cases h
        exact W.seqExit ((outw_out exit_ne (bnorm_x (by (show _ = _); kernel_rfl))))
     ·refine W.seqKeep hsj38 ?_
      refine W.seqOps Aw ?_
      refine W.assoc ?_
      obtain ⟨c45, hc45, h⟩ := bindS h
      refine W.seqOps (Bw 3 (RunR.dyn (Nw (decide (j38 < m2)) c45 hc45) (RunR.puts 4 [(185, Vb (c45 && (decide (m2 < (IntKind.wrap .i64 ((IntKind.wrap .i64 ((IntKind.wrap .i64 (Int.fdiv (IntKind.wrap .u64 (IntKind.wrap .i64 (a1 + b3))) 2)) + m2)) - j38)))))), (184, (Bf c45 (Vb (decide (m2 < (IntKind.wrap .i64 ((IntKind.wrap .i64 ((IntKind.wrap .i64 (Int.fdiv (IntKind.wrap .u64 (IntKind.wrap .i64 (a1 + b3))) 2)) + m2)) - j38))))))), (183, (Bf c45 (Vi (IntKind.wrap .i64 ((IntKind.wrap .i64 ((IntKind.wrap .i64 (Int.fdiv (IntKind.wrap .u64 (IntKind.wrap .i64 (a1 + b3))) 2)) + m2)) - j38))))), (182, (Bf c45 (Vi m2)))] (by cases c45 <;> kernel_rfl) ((.nil _))))) ?_
      obtain ⟨j46, hj46, h⟩ := bindS h
      refine W.join (j := j46) (fun p σ => σ.tidy [] [(0, false), (1, false), (3, false), (4, false), (18, false), (20, false), (24, false)] [(.ext 0, false)] [] [] = ⟨[(0, .own (.ext 0)), (1, Vi a1), (3, Vi b3), (4, .pv (.fn 103)), (18, Vi (IntKind.wrap .i64 (Int.fdiv (IntKind.wrap .u64 (IntKind.wrap .i64 (a1 + b3))) 2))), (20, Vi j38), (24, Vi (IntKind.wrap .i64 ((IntKind.wrap .i64 ((IntKind.wrap .i64 (Int.fdiv (IntKind.wrap .u64 (IntKind.wrap .i64 (a1 + b3))) 2)) + m2)) - j38)))], [(.ext 0, .row 9 (List.map T_api_Hold.pv p))]⟩) ?_ (fun σj46 hsj46 => ?_)
      ·replace h := hj46
       refine W.condI (t := (c45 && (decide (m2 < (IntKind.wrap .i64 ((IntKind.wrap .i64 ((IntKind.wrap .i64 (Int.fdiv (IntKind.wrap .u64 (IntKind.wrap .i64 (a1 + b3))) 2)) + m2)) - j38)))))) (by kernel_rfl) h (fun hc h' => ?_) (fun hc h' => ?_)
       ·replace h := h'
        obtain ⟨x47, hx47, h⟩ := bindS h
        refine W.ops (Bw 5 (RunR.cons (Tw (slices_rotateCmpFunc_Hold_ok hx47) tab_nil) (Step.callG (g := 152) (caps := []) (v := .tup []) (ins := []) rfl (by kernel_rfl) (by kernel_rfl) (by kernel_rfl) Hw (by kernel_rfl) (by kernel_rfl)) ((.nil _)))) ?_
        cases h
        exact Jw
       ·replace h := h'
        cases h
        exact W.skip Jw
      ·refine W.assoc ?_
       refine W.seqKeep hsj46 ?_
       obtain ⟨c49, hc49, h⟩ := bindS h
       refine W.seqOps (Bw 3 (RunR.dyn (Nw (decide (a1 < j38)) c49 hc49) (RunR.puts 4 [(199, Vb (c49 && (decide (j38 < (IntKind.wrap .i64 (Int.fdiv (IntKind.wrap .u64 (IntKind.wrap .i64 (a1 + b3))) 2)))))), (198, (Bf c49 (Vb (decide (j38 < (IntKind.wrap .i64 (Int.fdiv (IntKind.wrap .u64 (IntKind.wrap .i64 (a1 + b3))) 2))))))), (197, (Bf c49 (Vi (IntKind.wrap .i64 (Int.fdiv (IntKind.wrap .u64 (IntKind.wrap .i64 (a1 + b3))) 2))))), (196, (Bf c49 (Vi j38)))] (by cases c49 <;> kernel_rfl) ((.nil _))))) ?_
       obtain ⟨j50, hj50, h⟩ := bindS h
       refine W.join (j := j50) (fun p σ => σ.tidy [] [(0, false), (3, false), (4, false), (18, false), (24, false)] [(.ext 0, false)] [] [] = ⟨[(0, .own (.ext 0)), (3, Vi b3), (4, .pv (.fn 103)), (18, Vi (IntKind.wrap .i64 (Int.fdiv (IntKind.wrap .u64 (IntKind.wrap .i64 (a1 + b3))) 2))), (24, Vi (IntKind.wrap .i64 ((IntKind.wrap .i64 ((IntKind.wrap .i64 (Int.fdiv (IntKind.wrap .u64 (IntKind.wrap .i64 (a1 + b3))) 2)) + m2)) - j38)))], [(.ext 0, .row 9 (List.map T_api_Hold.pv p))]⟩) ?_ (fun σj50 hsj50 => ?_)
       ·replace h := hj50
        refine W.condI (t := (c49 && (decide (j38 < (IntKind.wrap .i64 (Int.fdiv (IntKind.wrap .u64 (IntKind.wrap .i64 (a1 + b3))) 2)))))) (by kernel_rfl) h (fun hc h' => ?_) (fun hc h' => ?_)
        ·replace h := h'
         obtain ⟨x51, hx51, h⟩ := bindS h
         refine W.ops (Bw 5 (RunR.cons (Tw (ih hx51) tab_nil) (Step.callG (g := 147) (caps := []) (v := .tup []) (ins := []) rfl (by kernel_rfl) (by kernel_rfl) (by kernel_rfl) Hw (by kernel_rfl) (by kernel_rfl)) ((.nil _)))) ?_
         cases h
         exact Jw
        ·replace h := h'
         cases h
         exact W.skip Jw
       ·refine W.seqKeep hsj50 ?_
        obtain ⟨c53, hc53, h⟩ := bindS h
        refine W.seqOps (Bw 3 (RunR.dyn (Nw (decide ((IntKind.wrap .i64 (Int.fdiv (IntKind.wrap .u64 (IntKind.wrap .i64 (a1 + b3))) 2)) < (IntKind.wrap .i64 ((IntKind.wrap .i64 ((IntKind.wrap .i64 (Int.fdiv (IntKind.wrap .u64 (IntKind.wrap .i64 (a1 + b3))) 2)) + m2)) - j38)))) c53 hc53) (RunR.puts 4 [(213, Vb (c53 && (decide ((IntKind.wrap .i64 ((IntKind.wrap .i64 ((IntKind.wrap .i64 (Int.fdiv (IntKind.wrap .u64 (IntKind.wrap .i64 (a1 + b3))) 2)) + m2)) - j38)) < b3)))), (212, (Bf c53 (Vb (decide ((IntKind.wrap .i64 ((IntKind.wrap .i64 ((IntKind.wrap .i64 (Int.fdiv (IntKind.wrap .u64 (IntKind.wrap .i64 (a1 + b3))) 2)) + m2)) - j38)) < b3))))), (211, (Bf c53 (Vi b3))), (210, (Bf c53 (Vi (IntKind.wrap .i64 ((IntKind.wrap .i64 ((IntKind.wrap .i64 (Int.fdiv (IntKind.wrap .u64 (IntKind.wrap .i64 (a1 + b3))) 2)) + m2)) - j38)))))] (by cases c53 <;> kernel_rfl) ((.nil _))))) ?_
        refine W.condI (t := (c53 && (decide ((IntKind.wrap .i64 ((IntKind.wrap .i64 ((IntKind.wrap .i64 (Int.fdiv (IntKind.wrap .u64 (IntKind.wrap .i64 (a1 + b3))) 2)) + m2)) - j38)) < b3)))) (by kernel_rfl) h (fun hc h' => ?_) (fun hc h' => ?_)
        ·replace h := h'
         obtain ⟨x54, hx54, h⟩ := bindS h
         refine W.ops (Bw 5 (RunR.cons (Tw (ih hx54) tab_nil) (Step.callG (g := 147) (caps := []) (v := .tup []) (ins := []) rfl (by kernel_rfl) (by kernel_rfl) (by kernel_rfl) Hw (by kernel_rfl) (by kernel_rfl)) ((.nil _)))) ?_
         cases h
         exact (fin_norm (by kernel_rfl))
        ·replace h := h'
         cases h
         exact W.skip ((fin_norm (by kernel_rfl)))
def Q23r0 : List GOp := [k0 6 20]
def Q23r1 : List GOp := [m0 10 6, k0 7 0, m0 8 10]
def Q23r2 : List GOp := [m0 11 8, m0 12 1, p0 13 .leq 11 12]
def Q23r3 : List GOp := [m0 14 0, m0 15 7, m0 16 8, m0 17 2, o0 18 (.call 0 2 (.cst (.fn 146)) [(.tmp 14), (.tmp 15), (.tmp 16), (.tmp 17)] [] [.ext 0])]
def Q23r4 : List GOp := [m0 19 8, m0 7 19]
def Q23r5 : List GOp := [m0 20 8, m0 21 6, p0 22 .add 20 21, m0 8 22]
def Q23l6 : AC := (.keep [] [(0, false), (1, false), (2, false), (6, false), (7, false), (8, false)] [(.ext 0, false)] [] [] (.seq (.seq (.ops Q23r2) (.cond (.tmp 13) .skip (.exit 0))) (.pass 1 (.seq (.ops Q23r3) (.seq (.ops Q23r4) (.ops Q23r5))))))
def Q23r7 : List GOp := [m0 23 0, m0 24 7, m0 25 1, m0 26 2, o0 27 (.call 0 2 (.cst (.fn 146)) [(.tmp 23), (.tmp 24), (.tmp 25), (.tmp 26)] [] [.ext 0])]
def Q23r8 : List GOp := [m0 28 6, m0 29 1, p0 30 .lss 28 29]
def Q23r9 : List GOp := [m0 31 6, o0 32 (.bin false .mul (.cst (.int .i64 2)) (.tmp 31)), k0 7 0, m0 8 32]
def Q23r10 : List GOp := [m0 33 8, m0 34 1, p0 35 .leq 33 34]
def Q23r11 : List GOp := [m0 36 0, m0 37 7, m0 38 7, m0 39 6, p0 40 .add 38 39, m0 41 8, m0 42 2, o0 43 (.call 0 2 (.cst (.fn 147)) [(.tmp 36), (.tmp 37), (.tmp 40), (.tmp 41), (.tmp 42)] [] [.ext 0])]
def Q23r12 : List GOp := [m0 44 8, m0 7 44]
def Q23r13 : List GOp := [m0 45 8, m0 46 6, o0 47 (.bin false .mul (.cst (.int .i64 2)) (.tmp 46)), p0 48 .add 45 47, m0 8 48]
def Q23l14 : AC := (.keep [] [(0, false), (1, false), (2, false), (6, false), (7, false), (8, false)] [(.ext 0, false)] [] [] (.seq (.seq (.ops Q23r10) (.cond (.tmp 35) .skip (.exit 4))) (.pass 5 (.seq (.ops Q23r11) (.seq (.ops Q23r12) (.ops Q23r13))))))
def Q23r15 : List GOp := [m0 49 7, m0 50 6, p0 51 .add 49 50, m0 9 51]
def Q23r16 : List GOp := [m0 52 9, m0 53 1, p0 54 .lss 52 53]
def Q23r17 : List GOp := [m0 55 0, m0 56 7, m0 57 9, m0 58 1, m0 59 2, o0 60 (.call 0 2 (.cst (.fn 147)) [(.tmp 55), (.tmp 56), (.tmp 57), (.tmp 58), (.tmp 59)] [] [.ext 0])]
def Q23r18 : List GOp := [m0 61 6, q0 62 .mul 61 2, m0 6 62]
def Q23l19 : AC := (.keep [] [(0, false), (1, false), (2, false), (6, false)] [(.ext 0, false)] [] [] (.seq (.seq (.ops Q23r8) (.cond (.tmp 30) .skip (.keep [] [] [(.ext 0, false)] [] [] (.exit 2)))) (.pass 3 (.seq (.ops Q23r9) (.seq (.block 4 (.loop [0, 1, 2, 6, 7, 8] [] Q23l14)) (.seq (.seq (.keep [] [(0, false), (1, false), (2, false), (6, false), (7, false)] [(.ext 0, false)] [] [] (.ops Q23r15)) (.seq (.ops Q23r16) (.cond (.tmp 54) (.ops Q23r17) .skip))) (.keep [] [(0, false), (1, false), (2, false), (6, false)] [(.ext 0, false)] [] [] (.ops Q23r18))))))))
def Q23b : AC := (.seq (.ops Q23r0) (.seq (.ops Q23r1) (.seq (.block 0 (.loop [0, 1, 2, 6, 7, 8] [] Q23l6)) (.seq (.keep [] [(0, false), (1, false), (2, false), (6, false), (7, false)] [(.ext 0, false)] [] [] (.ops Q23r7)) (.block 2 (.loop [0, 1, 2, 6] [] Q23l19))))))
def Q23 : Fd := ⟨3, [], [], Q23b⟩
theorem Q23_ag : agreeF Tryz.prog Tryz.f133 Q23 = true := by kernel_rfl
theorem slices_stableCmpFunc_Hold_ok {n1 : Int} {l2 : List T_api_Hold} {r : List T_api_Hold} (h : slices_stableCmpFunc_Hold n1 l2 = some r) : Contract Tryz.prog 133 [.own (.ext 0), Vi n1, .pv (.fn 103)] [.row 9 (List.map T_api_Hold.pv l2)] ⟨.tup [], [], [(some (.row 9 (List.map T_api_Hold.pv r)))]⟩ := by
 refine contract_fin hm Tryz.func133 Q23_ag (by kernel_rfl) ?_
 unfold slices_stableCmpFunc_Hold at h
 refine W.seqOps Aw ?_
 refine W.seqOps Aw ?_
 obtain ⟨j3, hj3, h⟩ := bindS h
 refine W.join (j := j3) (fun p σ => σ.tidy [] [(0, false), (1, false), (2, false), (6, false), (7, false)] [(.ext 0, false)] [] [] = ⟨[(0, .own (.ext 0)), (1, Vi n1), (2, .pv (.fn 103)), (6, Vi 20), (7, Vi p.1)], [(.ext 0, .row 9 (List.map T_api_Hold.pv p.2))]⟩) ?_ (fun σj3 hsj3 => ?_)
 ·refine W.blockLoop (fun q σ => ((σ.forget [0, 1, 2, 6, 7, 8]).killAll []).tidy [] [(0, false), (1, false), (2, false), (6, false), (7, false), (8, false)] [(.ext 0, false)] [] [] = ⟨[(0, .own (.ext 0)), (1, Vi n1), (2, .pv (.fn 103)), (6, Vi 20), (7, Vi q.1), (8, Vi q.2.1)], [(.ext 0, .row 9 (List.map T_api_Hold.pv q.2.2))]⟩) hj3 ?_ ?_
  ·show _ = _
   kernel_rfl
  ·intro q σj3 oj3 hJj3 h
   obtain ⟨a4, b5, row6⟩ := q
   refine W.keep hJj3 ?_
   refine W.assoc ?_
   refine W.seqOps Aw ?_
   refine W.seqCond (t := decide (b5 ≤ n1)) (by kernel_rfl) h (fun hc h' => ?_) (fun hc h' => ?_)
   ·replace h := h'
    refine W.seqSkip ?_
    refine W.pass ?_
    obtain ⟨x7, hx7, h⟩ := bindS h
    refine W.seqOps (Bw 4 (RunR.cons (Tw (slices_insertionSortCmpFunc_Hold_ok hx7) tab_nil) (Step.callG (g := 146) (caps := []) (v := .tup []) (ins := []) rfl (by kernel_rfl) (by kernel_rfl) (by kernel_rfl) Hw (by kernel_rfl) (by kernel_rfl)) ((.nil _)))) ?_
    refine W.seqOps Aw ?_
    refine W.ops Aw ?_
    cases h
    exact Ow
   ·replace h := h'
    cases h
    exact W.seqExit ((outw_out exit_ne (bnorm_x (by (show _ = _); kernel_rfl))))
 ·obtain ⟨a8, row9⟩ := j3
  refine W.seqKeep hsj3 ?_
  obtain ⟨x10, hx10, h⟩ := bindS h
  refine W.seqOps (Bw 4 (RunR.cons (Tw (slices_insertionSortCmpFunc_Hold_ok hx10) tab_nil) (Step.callG (g := 146) (caps := []) (v := .tup []) (ins := []) rfl (by kernel_rfl) (by kernel_rfl) (by kernel_rfl) Hw (by kernel_rfl) (by kernel_rfl)) ((.nil _)))) ?_
  obtain ⟨j11, hj11, h⟩ := bindS h
  refine W.mono (Q := NormW (fun p σ => σ = ⟨[], [(.ext 0, .row 9 (List.map T_api_Hold.pv p))]⟩) j11) ?_ (fun ex σj11 hp => ?_)
  ·refine W.blockLoop (fun q σ => ((σ.forget [0, 1, 2, 6]).killAll []).tidy [] [(0, false), (1, false), (2, false), (6, false)] [(.ext 0, false)] [] [] = ⟨[(0, .own (.ext 0)), (1, Vi n1), (2, .pv (.fn 103)), (6, Vi q.1)], [(.ext 0, .row 9 (List.map T_api_Hold.pv q.2))]⟩) hj11 ?_ ?_
   ·show _ = _
    kernel_rfl
   ·intro q σj11 oj11 hJj11 h
    obtain ⟨blockSize12, row13⟩ := q
    refine W.keep hJj11 ?_
    refine W.assoc ?_
    refine W.seqOps Aw ?_
    refine W.seqCond (t := decide (blockSize12 < n1)) (by kernel_rfl) h (fun hc h' => ?_) (fun hc h' => ?_)
    ·replace h := h'
     refine W.seqSkip ?_
     refine W.pass ?_
     refine W.seqOps Aw ?_
     obtain ⟨j14, hj14, h⟩ := bindS h
     refine W.join (j := j14) (fun p σ => σ.tidy [] [(0, false), (1, false), (2, false), (6, false), (7, false)] [(.ext 0, false)] [] [] = ⟨[(0, .own (.ext 0)), (1, Vi n1), (2, .pv (.fn 103)), (6, Vi blockSize12), (7, Vi p.1)], [(.ext 0, .row 9 (List.map T_api_Hold.pv p.2))]⟩) ?_ (fun σj14 hsj14 => ?_)
     ·refine W.blockLoop (fun q σ => ((σ.forget [0, 1, 2, 6, 7, 8]).killAll []).tidy [] [(0, false), (1, false), (2, false), (6, false), (7, false), (8, false)] [(.ext 0, false)] [] [] = ⟨[(0, .own (.ext 0)), (1, Vi n1), (2, .pv (.fn 103)), (6, Vi blockSize12), (7, Vi q.1), (8, Vi q.2.1)], [(.ext 0, .row 9 (List.map T_api_Hold.pv q.2.2))]⟩) hj14 ?_ ?_
      ·show _ = _
       kernel_rfl
      ·intro q σj14 oj14 hJj14 h
       obtain ⟨a15, b16, row17⟩ := q
       refine W.keep hJj14 ?_
       refine W.assoc ?_
       refine W.seqOps Aw ?_
       refine W.seqCond (t := decide (b16 ≤ n1)) (by kernel_rfl) h (fun hc h' => ?_) (fun hc h' => ?_)
       ·replace h := h'
        refine W.seqSkip ?_
        refine W.pass ?_
        obtain ⟨x18, hx18, h⟩ := bindS h
        refine W.seqOps (Bw 7 (RunR.cons (Tw (slices_symMergeCmpFunc_Hold_ok hx18) tab_nil) (Step.callG (g := 147) (caps := []) (v := .tup []) (ins := []) rfl (by kernel_rfl) (by kernel_rfl) (by kernel_rfl) Hw (by kernel_rfl) (by kernel_rfl)) ((.nil _)))) ?_
        refine W.seqOps Aw ?_
        refine W.ops Aw ?_
        cases h
        exact Ow
       ·replace h := h'
        cases h
        exact W.seqExit ((outw_out exit_ne (bnorm_x (by (show _ = _); kernel_rfl))))
     ·obtain ⟨a19, row20⟩ := j14
      refine W.assoc ?_
      refine W.seqKeep hsj14 ?_
      refine W.seqOps Aw ?_
      refine W.assoc ?_
      refine W.seqOps Aw ?_
      obtain ⟨j21, hj21, h⟩ := bindS h
      refine W.join (j := j21) (fun p σ => σ.tidy [] [(0, false), (1, false), (2, false), (6, false)] [(.ext 0, false)] [] [] = ⟨[(0, .own (.ext 0)), (1, Vi n1), (2, .pv (.fn 103)), (6, Vi blockSize12)], [(.ext 0, .row 9 (List.map T_api_Hold.pv p))]⟩) ?_ (fun σj21 hsj21 => ?_)
      ·replace h := hj21
       refine W.condI (t := decide ((IntKind.wrap .i64 (a19 + blockSize12)) < n1)) (by kernel_rfl) h (fun hc h' => ?_) (fun hc h' => ?_)
       ·replace h := h'
        obtain ⟨x22, hx22, h⟩ := bindS h
        refine W.ops (Bw 5 (RunR.cons (Tw (slices_symMergeCmpFunc_Hold_ok hx22) tab_nil) (Step.callG (g := 147) (caps := []) (v := .tup []) (ins := []) rfl (by kernel_rfl) (by kernel_rfl) (by kernel_rfl) Hw (by kernel_rfl) (by kernel_rfl)) ((.nil _)))) ?_
        cases h
        exact Jw
       ·replace h := h'
        cases h
        exact W.skip Jw
      ·refine W.keep hsj21 ?_
       refine W.ops Aw ?_
       cases h
       exact Ow
    ·replace h := h'
     refine W.seqKeep rfl ?_
     cases h
     exact W.seqExit ((outw_out exit_ne (bnorm_x (by (show _ = _); kernel_rfl))))
  ·obtain ⟨rfl, hs⟩ := hp
   subst hs
   cases h
   exact (fin_norm (by kernel_rfl))
def Q8r0 : List GOp := [m0 4 0, m0 5 0, e0 6 5, m0 7 1, o0 8 (.call 0 2 (.cst (.fn 133)) [(.tmp 4), (.tmp 6), (.tmp 7)] [] [.ext 0])]
def Q8b : AC := (.ops Q8r0)
def Q8 : Fd := ⟨2, [], [], Q8b⟩
theorem Q8_ag : agreeF Tryz.prog Tryz.f102 Q8 = true := by kernel_rfl
theorem slices_SortStableFunc_Hold_Hold_ok {l1 : List T_api_Hold} {r : List T_api_Hold} (h : slices_SortStableFunc_Hold_Hold l1 = some r) : Contract Tryz.prog 102 [.own (.ext 0), .pv (.fn 103)] [.row 9 (List.map T_api_Hold.pv l1)] ⟨.tup [], [], [(some (.row 9 (List.map T_api_Hold.pv r)))]⟩ := by
 refine contract_fin hm Tryz.func102 Q8_ag (by kernel_rfl) ?_
 unfold slices_SortStableFunc_Hold_Hold at h
 obtain ⟨x2, hx2, h⟩ := bindS h
 refine W.ops (Bw 2 (RunR.dyn (Lw T_api_Hold.pv l1) (Bw 1 (RunR.cons (Tw (slices_stableCmpFunc_Hold_ok hx2) tab_nil) (Step.callG (g := 133) (caps := []) (v := .tup []) (ins := []) rfl (by kernel_rfl) (by kernel_rfl) (by kernel_rfl) Hw (by kernel_rfl) (by kernel_rfl)) ((.nil _)))))) ?_
 cases h
 exact (fin_norm (by kernel_rfl))
def Q75r0 : List GOp := [o0 10 (.mov .nils), k0 11 0]
def Q75r1 : List GOp := [m0 19 0, o0 20 (.call 0 0 (.cst (.fn 35)) [(.tmp 19)] [] []), m0 12 20]
def Q75r2 : List GOp := [m0 21 12, q0 22 .neq 21 0]
def Q75r3 : List GOp := [m0 23 12, o0 10 (.mov .nils), m0 11 23]
def Q75r4 : List GOp := [m0 24 0, m0 25 1, m0 26 2, m0 27 3, o0 28 (.call 1 0 (.cst (.fn 101)) [(.tmp 24), (.tmp 25), (.tmp 26), (.tmp 27)] [] []), o0 29 (.call 1 0 (.cst (.fn 100)) [(.tmp 28)] [] []), m0 13 29]
def Q75r5 : List GOp := [m0 30 13, o0 31 (.call 0 2 (.cst (.fn 102)) [(.tmp 30), (.cst (.fn 103))] [] [.loc 29 0])]
def Q75r6 : List GOp := [m0 32 4, o0 33 (.mm true (.tmp 32) [(.cst (.int .i64 0))]), m0 14 33]
def Q75r7 : List GOp := [o0 15 (.mov .nils)]
def Q75r8 : List GOp := [m0 34 13, e0 35 34, k0 36 0]
def Q75r9 : List GOp := [p0 37 .lss 36 35]
def Q75r10 : List GOp := [i0 38 9 34 36, t0 39 9 38, o0 17 (.alloc [.pv (.int .i64 0), .pv (.int .i64 0), .pv (.int .i64 0), .pv (.int .i64 0), .pv (.int .i64 0), .pv (.int .i32 0), .pv (.int .i32 0), .pv (.int .i64 0), .pv (.bool false)]), s0 9 17 39]
def Q75r11 : List GOp := [m0 40 14, t0 41 9 17, m0 42 3, o0 43 (.call 0 0 (.cst (.fn 27)) [(.tmp 41), (.tmp 42)] [] []), o0 44 (.mm false (.tmp 40) [(.tmp 43)]), m0 18 44]
def Q75r12 : List GOp := [m0 45 14, m0 46 18, p0 47 .sub 45 46, m0 14 47]
def Q75r13 : List GOp := [m0 48 15, f0 49 0 17, l0 50 1 49, m0 51 18, o0 52 (.build [.pv (.int .i64 0), .pv (.int .i64 0)] [(0, 1, (.tmp 50)), (1, 1, (.tmp 51))]), o0 53 (.lit false 2 [(.tmp 52)]), o0 54 (.append 15 2 16 (.tmp 48) (.tmp 53)), m0 15 54]
def Q75r14 : List GOp := [q0 55 .add 36 1, m0 36 55]
def Q75l15 : AC := (.keep [.loc 29 0] [(3, false), (14, false), (15, false), (34, true), (35, false), (36, false)] [(.loc 15 0, false)] [.loc 17 0] [.slot 15 (.loc 15 0) 2] (.seq (.ops Q75r9) (.seq (.cond (.tmp 37) .skip (.exit 0)) (.seq (.pass 1 (.seq (.ops Q75r10) (.seq (.ops Q75r11) (.seq (.ops Q75r12) (.ops Q75r13))))) (.ops Q75r14)))))
def Q75r16 : List GOp := [m0 56 15, m0 10 56, k0 11 0]
def Q75b : AC := (.seq (.ops Q75r0) (.seq (.seq (.ops Q75r1) (.seq (.ops Q75r2) (.cond (.tmp 22) (.seq (.ops Q75r3) (.keep [] [(10, true), (11, false)] [] [] [] .ret)) .skip))) (.seq (.ops Q75r4) (.seq (.ops Q75r5) (.seq (.ops Q75r6) (.seq (.ops Q75r7) (.seq (.seq (.ops Q75r8) (.block 0 (.loop [3, 14, 15, 34, 35, 36] [] Q75l15))) (.seq (.keep [.loc 15 0] [(15, true)] [] [.loc 29 0] [] (.ops Q75r16)) (.keep [] [(10, true), (11, false)] [] [] [] .ret)))))))))
def Q75 : Fd := ⟨5, [.tmp 10, .tmp 11], [], Q75b⟩
theorem Q75_ag : agreeF Tryz.prog Tryz.f52 Q75 = true := by kernel_rfl
theorem hold_Cover_ok {l1 : List T_api_Hold} {acc2 : Int} {cur3 : Int} {now4 : Int} {funds5 : Int} {r : (List T_api_Covered) × Int} (h : hold_Cover l1 acc2 cur3 now4 funds5 = some r) : Contract Tryz.prog 52 [Vl T_api_Hold.pv l1, Vi acc2, Vi cur3, .pv (.int .i32 now4), Vi funds5] [] ⟨.tup [Vl T_api_Covered.pv r.1, Vi r.2], [], []⟩ := by
 refine contract_fin hm Tryz.func52 Q75_ag (by kernel_rfl) ?_
 unfold hold_Cover at h
 refine W.seqOps Aw ?_
 refine W.assoc ?_
 obtain ⟨x6, hx6, h⟩ := bindS h
 refine W.seqOps (Bw 1 (RunR.cons (Tw (hold_Check_ok hx6) tab_nil) (Kw 35 [] (Vi x6) Hw) Aw)) ?_
 refine W.assoc ?_
 refine W.seqOps Aw ?_
 refine W.seqCond (t := (x6 != 0)) (by kernel_rfl) h (fun hc h' => ?_) (fun hc h' => ?_)
 ·replace h := h'
  refine W.assoc ?_
  refine W.seqOps Aw ?_
  refine W.seqKeep rfl ?_
  cases h
  exact W.seqRet Fw
 ·replace h := h'
  refine W.seqSkip ?_
  obtain ⟨x7, hx7, h⟩ := bindS h
  refine W.seqOps (Bw 4 (RunR.cons (Tw (those_bare (l := (List.map T_api_Hold.pv l1)) (acc := acc2) (cur := cur3) (now := now4)) tab_nil) (Step.callS (g := 101) (caps := []) (v := .fn 132 [.ipv (.agg [.slice (List.map T_api_Hold.pv l1)]) 0, .ipv (.agg [.int .i64 acc2]) 0, .ipv (.agg [.int .i64 cur3]) 0, .ipv (.agg [.int .i32 now4]) 0]) (ins := []) (by kernel_rfl) (by kernel_rfl) (by kernel_rfl) Hw (by kernel_rfl)) (RunR.cons (Tw (hold_collect_ok hx7) tab_nil) (Step.callS (g := 100) (caps := []) (v := .own (.loc 29 0)) (ins := [(.loc 29 0, .row 9 (List.map T_api_Hold.pv x7))]) (by kernel_rfl) (by kernel_rfl) (by kernel_rfl) Hw (by kernel_rfl)) Aw))) ?_
  obtain ⟨x8, hx8, h⟩ := bindS h
  refine W.seqOps (Bw 1 (RunR.cons (Tw (slices_SortStableFunc_Hold_Hold_ok hx8) tab_nil) (Step.callG (g := 102) (caps := []) (v := .tup []) (ins := []) rfl (by kernel_rfl) (by kernel_rfl) (by kernel_rfl) Hw (by kernel_rfl) (by kernel_rfl)) ((.nil _)))) ?_
  refine W.seqOps Aw ?_
  refine W.seqOps Aw ?_
  refine W.assoc ?_
  refine W.seqOps (Bw 1 (RunR.dyn (Lw T_api_Hold.pv x8) Aw)) ?_
  obtain ⟨j9, hj9, h⟩ := bindS h
  refine W.join (j := j9) (fun p σ => σ.tidy [.loc 15 0] [(15, true)] [] [.loc 29 0] [] = ⟨[(15, Vl T_api_Covered.pv p)], []⟩) ?_ (fun σj9 hsj9 => ?_)
  ·refine W.blockLoop (fun q σ => ((σ.forget [3, 14, 15, 34, 35, 36]).killAll []).tidy [.loc 29 0] [(3, false), (14, false), (15, false), (34, true), (35, false), (36, false)] [(.loc 15 0, false)] [.loc 17 0] [.slot 15 (.loc 15 0) 2] = ⟨[(3, .pv (.int .i32 now4)), (14, Vi q.1), (15, .own (.loc 15 0)), (34, Vl T_api_Hold.pv q.2.1), (35, Vi (x8.length : Int)), (36, Vi q.2.2.1)], [(.loc 15 0, .row 2 (List.map T_api_Covered.pv q.2.2.2))]⟩) hj9 ?_ ?_
   ·show _ = _
    kernel_rfl
   ·intro q σj9 oj9 hJj9 h
    obtain ⟨left10, x11, x12, row13⟩ := q
    refine W.keep hJj9 ?_
    refine W.seqOps Aw ?_
    refine W.seqCond (t := decide (x12 < (x8.length : Int))) (by kernel_rfl) h (fun hc h' => ?_) (fun hc h' => ?_)
    ·replace h := h'
     refine W.seqSkip ?_
     refine W.seqPass ?_
     refine W.assoc ?_
     obtain ⟨x14, hx14, h⟩ := bindS h
     refine W.seqOps (RunR.dyn (Iw T_api_Hold.pv x11 x12 x14 hx14) Aw) ?_
     refine W.assoc ?_
     obtain ⟨x15, hx15, h⟩ := bindS h
     refine W.seqOps (Bw 3 (RunR.cons (Tw (hold_Rest_ok hx15) tab_nil) (Kw 27 [] (Vi x15) Hw) Aw)) ?_
     refine W.assoc ?_
     refine W.seqOps Aw ?_
     obtain ⟨x16, hx16, h⟩ := bindS h
     refine W.seqOps (Bw 6 (RunR.dyn (Step.appendOwnT (k := .loc 15 0) (f := T_api_Covered.pv) (l := row13) (m := [(⟨x14.f_ID, (if x15 < left10 then x15 else left10)⟩ : T_api_Covered)]) (by kernel_rfl) (by kernel_rfl) (by kernel_rfl) hx16 (fun _ => rfl) (by kernel_rfl)) Aw)) ?_
     refine W.ops Aw ?_
     cases h
     exact Ow
    ·replace h := h'
     cases h
     exact W.seqExit ((outw_out exit_ne (bnorm_x (by (show _ = _); kernel_rfl))))
  ·refine W.seqKeep hsj9 ?_
   refine W.seqOps Aw ?_
   refine W.keep rfl ?_
   cases h
   exact W.ret Fw
def Q56r0 : List GOp := [o0 2 (.box (.tmp 0)), b0 3 false]
def Q56r1 : List GOp := [f0 4 0 2, l0 5 1 4, l0 6 1 1, p0 7 .eql 5 6, m0 3 7]
def Q56b : AC := (.seq (.ops Q56r0) (.seq (.ops Q56r1) (.keep [] [(3, false)] [] [.loc 2 0] [] .ret)))
def Q56 : Fd := ⟨2, [.tmp 3], [], Q56b⟩
theorem Q56_ag : agreeF Tryz.prog Tryz.f54 Q56 = true := by kernel_rfl
theorem avail_Take_2_ok {c1 : T_api_Covered} {x2 : Int} {r : Bool} (h : avail_Take_2 c1 x2 = some r) : Contract Tryz.prog 54 [.pv (T_api_Covered.pv c1), .ipv (.agg [.int .i64 x2]) 0] [] ⟨Vb r, [], []⟩ := by
 refine contract_fin hm Tryz.func54 Q56_ag (by kernel_rfl) ?_
 unfold avail_Take_2 at h
 refine W.seqOps Aw ?_
 refine W.seqOps Aw ?_
 refine W.keep rfl ?_
 cases h
 exact W.ret Fw
def Q7r0 : List GOp := [k0 4 0]
def Q7r1 : List GOp := [m0 6 0, e0 7 6, k0 8 0]
def Q7r2 : List GOp := [p0 9 .lss 8 7]
def Q7r3 : List GOp := [m0 10 8, m0 5 10]
def Q7r4 : List GOp := [m0 11 1, m0 12 0, m0 13 5, i0 14 2 12 13, t0 15 2 14, o0 16 (.call 0 0 (.tmp 11) [(.tmp 15)] [] [])]
def Q7r5 : List GOp := [m0 17 5, m0 4 17]
def Q7r6 : List GOp := [q0 18 .add 8 1, m0 8 18]
def Q7l7 : AC := (.keep [] [(0, false), (1, false), (7, false), (8, false)] [] [] [] (.seq (.ops Q7r2) (.seq (.cond (.tmp 9) .skip (.exit 0)) (.seq (.pass 1 (.seq (.ops Q7r3) (.seq (.ops Q7r4) (.cond (.tmp 16) (.seq (.ops Q7r5) (.keep [] [(4, false)] [] [] [] .ret)) .skip)))) (.ops Q7r6)))))
def Q7r8 : List GOp := [k0 4 (-1)]
def Q7b : AC := (.seq (.ops Q7r0) (.seq (.seq (.ops Q7r1) (.block 0 (.loop [0, 1, 7, 8] [] Q7l7))) (.seq (.keep [] [] [] [] [] (.ops Q7r8)) (.keep [] [(4, false)] [] [] [] .ret))))
def Q7 : Fd := ⟨2, [.tmp 4], [], Q7b⟩
theorem Q7_ag : agreeF Tryz.prog Tryz.f53 Q7 = true := by kernel_rfl
theorem slices_IndexFunc_Covered_Covered_ok {s1 : List T_api_Covered} {c2 : Int} {r : Int} (h : slices_IndexFunc_Covered_Covered s1 c2 = some r) : Contract Tryz.prog 53 [Vl T_api_Covered.pv s1, .fn 54 [.ipv (.agg [.int .i64 c2]) 0]] [] ⟨Vi r, [], []⟩ := by
 refine contract_fin hm Tryz.func53 Q7_ag (by kernel_rfl) ?_
 unfold slices_IndexFunc_Covered_Covered at h
 refine W.seqOps Aw ?_
 refine W.assoc ?_
 refine W.seqOps (Bw 1 (RunR.dyn (Lw T_api_Covered.pv s1) Aw)) ?_
 obtain ⟨j3, hj3, h⟩ := bindS h
 refine W.joinOut (j := j3) (o := r) (fun p σ => σ.tidy [] [] [] [] [] = ⟨[], []⟩) ?_ (fun p σj3 hp hsj3 => ?_) (fun p hp => ?_)
 ·refine W.blockLoopO (fun q σ => ((σ.forget [0, 1, 7, 8]).killAll []).tidy [] [(0, false), (1, false), (7, false), (8, false)] [] [] [] = ⟨[(0, Vl T_api_Covered.pv s1), (1, .fn 54 [.ipv (.agg [.int .i64 c2]) 0]), (7, Vi (s1.length : Int)), (8, Vi q)], []⟩) hj3 ?_ ?_
  ·show _ = _
   kernel_rfl
  ·intro x4 σj3 oj3 hJj3 h
   refine W.keep hJj3 ?_
   refine W.seqOps Aw ?_
   refine W.seqCond (t := decide (x4 < (s1.length : Int))) (by kernel_rfl) h (fun hc h' => ?_) (fun hc h' => ?_)
   ·replace h := h'
    refine W.seqSkip ?_
    refine W.seqPass ?_
    refine W.assoc ?_
    refine W.seqOps Aw ?_
    refine W.assoc ?_
    obtain ⟨x5, hx5, h⟩ := bindS h
    obtain ⟨x6, hx6, h⟩ := bindS h
    refine W.seqOps (Bw 3 (RunR.dyn (Iw T_api_Covered.pv s1 x4 x5 hx5) (Bw 1 (RunR.cons (Tw (avail_Take_2_ok hx6) tab_nil) (Kw 54 [.ipv (.agg [.int .i64 c2]) 0] (Vb x6) Hw) ((.nil _)))))) ?_
    refine W.seqCond (t := x6) (by kernel_rfl) h (fun hc h' => ?_) (fun hc h' => ?_)
    ·replace h := h'
     refine W.assoc ?_
     refine W.seqOps Aw ?_
     refine W.seqKeep rfl ?_
     cases h
     exact W.seqRet ((outw_out ret_ne (bout_o ret_ne ret_ne' (fun e => by subst e; exact Fw))))
    ·replace h := h'
     refine W.seqSkip ?_
     refine W.ops Aw ?_
     cases h
     exact Ow
   ·replace h := h'
    cases h
    exact W.seqExit ((outw_out exit_ne (bout_x (by (show _ = _); kernel_rfl))))
 ·subst hp
  obtain ⟨⟩ := p
  refine W.seqKeep hsj3 ?_
  refine W.seqOps Aw ?_
  refine W.keep rfl ?_
  cases h
  exact W.ret Fw
 ·subst hp
  exact Option.some.inj h
def Q76r0 : List GOp := [o0 5 (.box (.tmp 0)), o0 6 (.box (.tmp 1)), o0 7 (.box (.tmp 2)), o0 10 (.alloc [.nils, .nils, .nils, .nils, .nils]), b0 11 false, k0 12 0]
def Q76r1 : List GOp := [t0 21 5 5, o0 22 (.call 0 0 (.cst (.fn 11)) [(.tmp 21)] [] []), o0 23 (.un .not (.tmp 22))]
def Q76r2 : List GOp := [o0 24 (.build [.nils, .nils, .nils, .nils, .nils] []), s0 5 10 24, b0 11 false, k0 12 1]
def Q76r3 : List GOp := [f0 26 3 5, l0 27 1 26, l0 28 1 6, t0 29 2 7, m0 30 3, m0 31 4, o0 32 (.call 0 0 (.cst (.fn 49)) [(.tmp 27), (.tmp 28), (.tmp 29), (.tmp 30), (.tmp 31)] [] []), m0 25 32, o0 33 (.ext 0 (.tmp 25)), o0 34 (.ext 1 (.tmp 25)), m0 13 33, m0 14 34]
def Q76r4 : List GOp := [m0 35 14, q0 36 .neq 35 0]
def Q76r5 : List GOp := [o0 37 (.build [.nils, .nils, .nils, .nils, .nils] []), m0 38 14, s0 5 10 37, b0 11 false, m0 12 38]
def Q76r6 : List GOp := [f0 39 3 5, l0 40 1 39, f0 41 3 5, l0 42 1 41, o0 43 (.mkfn 51 [(.tmp 6)]), o0 44 (.call 0 0 (.cst (.fn 50)) [(.tmp 42), (.tmp 43)] [] []), i0 45 9 40 44, t0 46 9 45, o0 15 (.alloc [.pv (.int .i64 0), .pv (.int .i64 0), .pv (.int .i64 0), .pv (.int .i64 0), .pv (.int .i64 0), .pv (.int .i32 0), .pv (.int .i32 0), .pv (.int .i64 0), .pv (.bool false)]), s0 9 15 46]
def Q76r7 : List GOp := [t0 48 5 5, f0 49 1 15, l0 50 1 49, m0 51 3, o0 52 (.call 0 0 (.cst (.fn 28)) [(.tmp 48), (.tmp 50), (.tmp 51)] [] []), m0 47 52, o0 53 (.ext 0 (.tmp 47)), o0 54 (.ext 1 (.tmp 47)), o0 16 (.alloc [.pv (.int .i64 0), .pv (.int .i64 0), .pv (.int .i64 0)]), s0 3 16 53, m0 17 54]
def Q76r8 : List GOp := [m0 56 17, o0 57 (.isNil true (.tmp 56)), m0 55 57]
def Q76r9 : List GOp := [o0 58 (.build [.nils, .nils, .nils, .nils, .nils] []), m0 59 17, o0 60 (.call 0 0 (.cst (.fn 29)) [(.tmp 59)] [] []), s0 5 10 58, b0 11 false, m0 12 60]
def Q76r10 : List GOp := [f0 62 2 15, f0 63 0 62, l0 64 1 63, f0 65 0 16, l0 66 1 65, p0 67 .neq 64 66, m0 61 67]
def Q76r11 : List GOp := [o0 68 (.build [.nils, .nils, .nils, .nils, .nils] []), s0 5 10 68, b0 11 false, k0 12 12]
def Q76r12 : List GOp := [f0 70 3 5, l0 71 1 70, f0 72 1 15, l0 73 1 72, f0 74 0 16, l0 75 1 74, m0 76 3, f0 77 1 16, l0 78 1 77, f0 79 2 16, l0 80 1 79, p0 81 .add 78 80, o0 82 (.call 0 0 (.cst (.fn 52)) [(.tmp 71), (.tmp 73), (.tmp 75), (.tmp 76), (.tmp 81)] [] []), m0 69 82, o0 83 (.ext 0 (.tmp 69)), o0 84 (.ext 1 (.tmp 69)), m0 18 83, m0 19 84]
def Q76r13 : List GOp := [m0 85 18, o0 86 (.mkfn 54 [(.tmp 6)]), o0 87 (.call 0 0 (.cst (.fn 53)) [(.tmp 85), (.tmp 86)] [] []), m0 20 87]
def Q76r14 : List GOp := [m0 88 20, q0 89 .lss 88 0, m0 90 89, g0 91 90 false (.mov (.tmp 18)), g0 92 90 false (.mov (.tmp 20)), g0 93 90 false (.idx 2 (.tmp 91) (.tmp 92)), g0 94 90 false (.fld 1 (.tmp 93)), g0 95 90 false (.load false 1 (.tmp 94)), g0 96 90 false (.fld 1 (.tmp 7)), g0 97 90 false (.load false 1 (.tmp 96)), g0 98 90 false (.bin false .lss (.tmp 95) (.tmp 97)), o0 99 (.pick (.tmp 90) (.cst (.bool true)) (.tmp 98))]
def Q76r15 : List GOp := [t0 100 5 5, f0 101 3 5, l0 102 1 101, o0 103 (.call 0 0 (.cst (.fn 48)) [(.tmp 100), (.tmp 102)] [] []), s0 5 10 103, b0 11 false, k0 12 0]
def Q76r16 : List GOp := [t0 104 5 5, m0 105 13, o0 106 (.call 0 0 (.cst (.fn 48)) [(.tmp 104), (.tmp 105)] [] []), s0 5 10 106, b0 11 true, k0 12 0]
def Q76b : AC := (.seq (.ops Q76r0) (.seq (.seq (.ops Q76r1) (.cond (.tmp 23) (.seq (.ops Q76r2) (.keep [] [(10, false), (11, false), (12, false)] [(.loc 10 0, true)] [.loc 15 0, .loc 16 0, .loc 5 0, .loc 6 0, .loc 7 0] [] .ret)) .skip)) (.seq (.ops Q76r3) (.seq (.seq (.ops Q76r4) (.cond (.tmp 36) (.seq (.ops Q76r5) (.keep [] [(10, false), (11, false), (12, false)] [(.loc 10 0, true)] [.loc 15 0, .loc 16 0, .loc 5 0, .loc 6 0, .loc 7 0] [] .ret)) .skip)) (.seq (.keep [.loc 6 0] [(3, false), (5, false), (6, false), (7, false), (10, false), (13, false)] [(.loc 5 0, false), (.loc 7 0, false), (.loc 10 0, false)] [] [] (.draw [.loc 15 0] Q76r6)) (.seq (.ops Q76r7) (.seq (.pass 0 (.seq (.ops Q76r8) (.cond (.tmp 55) (.seq (.ops Q76r9) (.keep [] [(10, false), (11, false), (12, false)] [(.loc 10 0, true)] [.loc 15 0, .loc 16 0, .loc 5 0, .loc 6 0, .loc 7 0] [] .ret)) (.seq (.ops Q76r10) (.cond (.tmp 61) (.seq (.ops Q76r11) (.keep [] [(10, false), (11, false), (12, false)] [(.loc 10 0, true)] [.loc 15 0, .loc 16 0, .loc 5 0, .loc 6 0, .loc 7 0] [] .ret)) .skip))))) (.seq (.ops Q76r12) (.seq (.ops Q76r13) (.seq (.seq (.draw [] Q76r14) (.cond (.tmp 99) (.seq (.ops Q76r15) (.keep [] [(10, false), (11, false), (12, false)] [(.loc 10 0, true)] [.loc 15 0, .loc 16 0, .loc 5 0, .loc 6 0, .loc 7 0] [] .ret)) .skip)) (.seq (.ops Q76r16) (.keep [] [(10, false), (11, false), (12, false)] [(.loc 10 0, true)] [.loc 15 0, .loc 16 0, .loc 5 0, .loc 6 0, .loc 7 0] [] .ret))))))))))))
def Q76 : Fd := ⟨5, [.cell 10 true 5, .tmp 11, .tmp 12], [], Q76b⟩
theorem Q76_ag : agreeF Tryz.prog Tryz.f20 Q76 = true := by kernel_rfl
theorem avail_Take_ok {t1 : T_api_Till} {id2 : Int} {amount3 : T_api_Money} {now4 : Int} {last5 : Bool} {r : T_api_Till × Bool × Int} (h : avail_Take t1 id2 amount3 now4 last5 = some r) : Contract Tryz.prog 20 [.pv (T_api_Till.pv t1), Vi id2, .pv (T_api_Money.pv amount3), .pv (.int .i32 now4), Vb last5] [] ⟨.tup [.pv (T_api_Till.pv r.1), Vb r.2.1, Vi r.2.2], [], []⟩ := by
 refine contract_fin hm Tryz.func20 Q76_ag (by kernel_rfl) ?_
 unfold avail_Take at h
 refine W.seqOps Aw ?_
 refine W.assoc ?_
 obtain ⟨x6, hx6, h⟩ := bindS h
 refine W.seqOps (Bw 1 (RunR.cons (Tw (avail_Right_ok hx6) tab_nil) (Kw 11 [] (Vb x6) Hw) Aw)) ?_
 refine W.seqCond (t := !x6) (by kernel_rfl) h (fun hc h' => ?_) (fun hc h' => ?_)
 ·replace h := h'
  refine W.assoc ?_
  refine W.seqOps Aw ?_
  refine W.seqKeep rfl ?_
  cases h
  exact W.seqRet Fw
 ·replace h := h'
  refine W.seqSkip ?_
  obtain ⟨x7, hx7, h⟩ := bindS h
  refine W.seqOps (Bw 6 (RunR.cons (Tw (hold_Capture_ok hx7) tab_nil) (Kw 49 [] (.tup [Vl T_api_Hold.pv x7.1, Vi x7.2]) Hw) Aw)) ?_
  refine W.assoc ?_
  refine W.seqOps Aw ?_
  refine W.seqCond (t := (x7.2 != 0)) (by kernel_rfl) h (fun hc h' => ?_) (fun hc h' => ?_)
  ·replace h := h'
   refine W.assoc ?_
   refine W.seqOps Aw ?_
   refine W.seqKeep rfl ?_
   cases h
   exact W.seqRet Fw
  ·replace h := h'
   refine W.seqSkip ?_
   obtain ⟨x8, hx8, h⟩ := bindS h
   obtain ⟨x9, hx9, h⟩ := bindS h
   refine W.seqKeep rfl ?_
   refine W.seqDraw (Tw (slices_IndexFunc_Hold_Hold_1_ok hx8) tab_nil) (Dw 5 (Run.dyn (Kw 50 [] (Vi x8) Hw) (Run.dyn (Iw T_api_Hold.pv t1.f_Holds x8 x9 hx9) Cw))) ?_
   obtain ⟨x10, hx10, h⟩ := bindS h
   refine W.seqOps (Bw 4 (RunR.cons (Tw (avail_ask_ok hx10) tab_nil) (Kw 28 [] (.tup [.pv (T_avail_account.pv x10.1), .pv (eErr 113 x10.2)]) Hw) Aw)) ?_
   refine W.seqPass ?_
   refine W.assoc ?_
   refine W.seqOps (Bw 1 (RunR.dyn (Step.isNilT (t := 113) (e := x10.2) (by kernel_rfl)) Aw)) ?_
   refine W.seqCond (t := Option.isSome x10.2) (by kernel_rfl) h (fun hc h' => ?_) (fun hc h' => ?_)
   ·replace h := h'
    refine W.assoc ?_
    obtain ⟨x11, hx11, h⟩ := bindS h
    refine W.seqOps (Bw 2 (RunR.cons (Tw (avail_whyOf_ok hx11) tab_nil) (Kw 29 [] (Vi x11) Hw) Aw)) ?_
    refine W.seqKeep rfl ?_
    cases h
    exact W.seqRet Fw
   ·replace h := h'
    refine W.assoc ?_
    refine W.seqOps Aw ?_
    refine W.seqCond (t := (x9.f_Amount.f_Cur != x10.1.f_cur)) (by kernel_rfl) h (fun hc h' => ?_) (fun hc h' => ?_)
    ·replace h := h'
     refine W.assoc ?_
     refine W.seqOps Aw ?_
     refine W.seqKeep rfl ?_
     cases h
     exact W.seqRet Fw
    ·replace h := h'
     refine W.seqSkip ?_
     obtain ⟨x12, hx12, h⟩ := bindS h
     refine W.seqOps (Bw 12 (RunR.cons (Tw (hold_Cover_ok hx12) tab_nil) (Kw 52 [] (.tup [Vl T_api_Covered.pv x12.1, Vi x12.2]) Hw) Aw)) ?_
     obtain ⟨x13, hx13, h⟩ := bindS h
     refine W.seqOps (Bw 2 (RunR.cons (Tw (slices_IndexFunc_Covered_Covered_ok hx13) tab_nil) (Kw 53 [] (Vi x13) Hw) Aw)) ?_
     refine W.assoc ?_
     obtain ⟨c14, hc14, h⟩ := bindS h
     obtain ⟨x15, hx15, h⟩ := bindS h
     refine W.seqDraw tab_nil (Dw 2 (Run.dyn (Nw (decide (x13 < 0)) c14 hc14) (Run.puts 2 [(92, (Bf (!c14) (Vi x13))), (91, (Bf (!c14) (Vl T_api_Covered.pv x12.1)))] (by cases c14 <;> kernel_rfl) (Run.dyn (Step.gdG (!c14) (by kernel_rfl) (by
        cases c14
        ·exact .inr ⟨by kernel_rfl, by kernel_rfl, Iw T_api_Covered.pv x12.1 x13 x15 hx15⟩
        ·exact .inl ⟨by kernel_rfl, by kernel_rfl⟩)) (Run.puts 6 [(99, Vb (c14 || (decide (x15.f_Much < amount3.f_Minor)))), (98, (Bf (!c14) (Vb (decide (x15.f_Much < amount3.f_Minor))))), (97, (Bf (!c14) (Vi amount3.f_Minor))), (96, (Bf (!c14) (.ptr (.loc 7 0) 1))), (95, (Bf (!c14) (Vi x15.f_Much))), (94, (Bf (!c14) (.ipv (T_api_Covered.pv x15) 1)))] (by cases c14 <;> kernel_rfl) ((Run.nil))))))) ?_
     refine W.seqCond (t := (c14 || (decide (x15.f_Much < amount3.f_Minor)))) (by kernel_rfl) h (fun hc h' => ?_) (fun hc h' => ?_)
     ·replace h := h'
      refine W.assoc ?_
      obtain ⟨x16, hx16, h⟩ := bindS h
      refine W.seqOps (Bw 3 (RunR.cons (Tw (avail_with_ok hx16) tab_nil) (Kw 48 [] (.pv (T_api_Till.pv x16)) Hw) Aw)) ?_
      refine W.seqKeep rfl ?_
      cases h
      exact W.seqRet Fw
     ·replace h := h'
      refine W.seqSkip ?_
      obtain ⟨x17, hx17, h⟩ := bindS h
      refine W.seqOps (Bw 2 (RunR.cons (Tw (avail_with_ok hx17) tab_nil) (Kw 48 [] (.pv (T_api_Till.pv x17)) Hw) Aw)) ?_
      refine W.keep rfl ?_
      cases h
      exact W.ret Fw
def Q24r0 : List GOp := [o0 2 (.box (.tmp 0)), o0 3 (.box (.tmp 1)), b0 4 false]
def Q24r1 : List GOp := [t0 20 5 2, o0 21 (.call 0 0 (.cst (.fn 7)) [(.tmp 20)] [] []), s0 5 2 21]
def Q24r2 : List GOp := [t0 23 5 2, t0 24 9 3, o0 25 (.call 0 0 (.cst (.fn 19)) [(.tmp 23), (.tmp 24)] [] []), m0 22 25, o0 26 (.ext 0 (.tmp 22)), o0 27 (.ext 1 (.tmp 22)), o0 28 (.ext 2 (.tmp 22)), o0 5 (.alloc [.nils, .nils, .nils, .nils, .nils]), s0 5 5 26, m0 6 27, m0 7 28]
def Q24r3 : List GOp := [m0 29 7, q0 30 .neq 29 0]
def Q24r4 : List GOp := [o0 31 (.call 0 0 (.cst (.fn 13)) [] [] []), m0 32 31, g0 33 32 true (.mov (.tmp 6)), g0 34 32 true (.un .not (.tmp 33)), o0 35 (.pick (.tmp 32) (.tmp 34) (.cst (.bool false))), m0 4 35]
def Q24r5 : List GOp := [k0 36 0]
def Q24r6 : List GOp := [q0 37 .lss 36 10]
def Q24r7 : List GOp := [m0 38 36, m0 8 38]
def Q24r8 : List GOp := [t0 40 5 2, f0 41 1 3, l0 42 1 41, f0 43 5 3, l0 44 1 43, m0 45 8, o0 46 (.call 0 0 (.cst (.fn 9)) [(.tmp 40), (.tmp 42), (.tmp 44), (.tmp 45)] [] []), m0 39 46, o0 47 (.ext 0 (.tmp 39)), o0 48 (.ext 1 (.tmp 39)), m0 9 47, m0 10 48]
def Q24r9 : List GOp := [t0 50 5 5, f0 51 1 3, l0 52 1 51, f0 53 5 3, l0 54 1 53, m0 55 8, o0 56 (.call 0 0 (.cst (.fn 9)) [(.tmp 50), (.tmp 52), (.tmp 54), (.tmp 55)] [] []), m0 49 56, o0 57 (.ext 0 (.tmp 49)), o0 58 (.ext 1 (.tmp 49)), m0 11 57, m0 12 58]
def Q24r10 : List GOp := [m0 59 10, q0 60 .neq 59 0, m0 61 60, g0 62 61 false (.mov (.tmp 12)), g0 63 61 false (.bin false .neq (.tmp 62) (.cst (.int .i64 0))), o0 64 (.pick (.tmp 61) (.cst (.bool true)) (.tmp 63))]
def Q24r11 : List GOp := [b0 4 false]
def Q24r12 : List GOp := [m0 65 8, f0 66 4 3, l0 67 1 66, p0 68 .eql 65 67, m0 69 68, g0 70 69 true (.mov (.tmp 6)), g0 71 69 true (.fld 2 (.tmp 3)), g0 72 69 true (.fld 1 (.tmp 71)), g0 73 69 true (.load false 1 (.tmp 72)), g0 74 69 true (.mov (.tmp 9)), g0 75 69 true (.bin false .leq (.tmp 73) (.tmp 74)), g0 76 69 true (.bin true .neq (.tmp 70) (.tmp 75)), o0 77 (.pick (.tmp 69) (.tmp 76) (.cst (.bool false)))]
def Q24r13 : List GOp := [b0 4 false]
def Q24r14 : List GOp := [k0 13 0]
def Q24r15 : List GOp := [m0 78 6, m0 79 78, g0 80 79 true (.mov (.tmp 8)), g0 81 79 true (.fld 4 (.tmp 3)), g0 82 79 true (.load false 1 (.tmp 81)), g0 83 79 true (.bin false .leq (.tmp 80) (.tmp 82)), o0 84 (.pick (.tmp 79) (.tmp 83) (.cst (.bool false)))]
def Q24r16 : List GOp := [f0 85 2 3, f0 86 1 85, l0 87 1 86, m0 13 87]
def Q24r17 : List GOp := [m0 88 11, m0 89 9, m0 90 13, p0 91 .sub 89 90, p0 92 .neq 88 91]
def Q24r18 : List GOp := [b0 4 false]
def Q24r19 : List GOp := [q0 93 .add 36 1, m0 36 93]
def Q24l20 : AC := (.keep [] [(2, false), (3, false), (5, false), (6, false), (36, false)] [(.loc 2 0, false), (.loc 3 0, false), (.loc 5 0, false)] [] [] (.seq (.ops Q24r6) (.seq (.cond (.tmp 37) .skip (.exit 0)) (.seq (.pass 1 (.seq (.ops Q24r7) (.seq (.ops Q24r8) (.seq (.ops Q24r9) (.seq (.seq (.ops Q24r10) (.cond (.tmp 64) (.seq (.ops Q24r11) (.keep [] [(4, false)] [] [.loc 14 0, .loc 2 0, .loc 3 0, .loc 5 0] [] .ret)) .skip)) (.seq (.seq (.ops Q24r12) (.cond (.tmp 77) (.seq (.ops Q24r13) (.keep [] [(4, false)] [] [.loc 14 0, .loc 2 0, .loc 3 0, .loc 5 0] [] .ret)) .skip)) (.seq (.ops Q24r14) (.seq (.seq (.ops Q24r15) (.cond (.tmp 84) (.ops Q24r16) .skip)) (.seq (.keep [] [(2, false), (3, false), (5, false), (6, false), (9, false), (11, false), (13, false), (36, false)] [(.loc 2 0, false), (.loc 3 0, false), (.loc 5 0, false)] [] [] (.ops Q24r17)) (.cond (.tmp 92) (.seq (.ops Q24r18) (.keep [] [(4, false)] [] [.loc 14 0, .loc 2 0, .loc 3 0, .loc 5 0] [] .ret)) .skip)))))))))) (.ops Q24r19)))))
def Q24r21 : List GOp := [t0 95 5 5, f0 96 0 3, l0 97 1 96, f0 98 2 3, t0 99 2 98, f0 100 5 3, l0 101 1 100, o0 102 (.call 0 0 (.cst (.fn 20)) [(.tmp 95), (.tmp 97), (.tmp 99), (.tmp 101), (.cst (.bool true))] [] []), m0 94 102, o0 103 (.ext 0 (.tmp 94)), o0 104 (.ext 1 (.tmp 94)), o0 105 (.ext 2 (.tmp 94)), o0 14 (.alloc [.nils, .nils, .nils, .nils, .nils]), s0 5 14 103, m0 15 104, m0 16 105]
def Q24r22 : List GOp := [m0 106 6, o0 107 (.un .not (.tmp 106))]
def Q24r23 : List GOp := [o0 108 (.call 0 0 (.cst (.fn 13)) [] [] []), m0 109 108, g0 110 109 true (.mov (.tmp 16)), g0 111 109 true (.bin false .neq (.tmp 110) (.cst (.int .i64 0))), o0 112 (.pick (.tmp 109) (.tmp 111) (.cst (.bool false))), m0 113 112, g0 114 113 true (.mov (.tmp 15)), g0 115 113 true (.un .not (.tmp 114)), o0 116 (.pick (.tmp 113) (.tmp 115) (.cst (.bool false))), m0 4 116]
def Q24r24 : List GOp := [k0 17 (-1)]
def Q24r25 : List GOp := [f0 117 3 14, l0 118 1 117, e0 119 118, k0 120 0]
def Q24r26 : List GOp := [p0 121 .lss 120 119]
def Q24r27 : List GOp := [i0 122 9 118 120, t0 123 9 122, o0 19 (.alloc [.pv (.int .i64 0), .pv (.int .i64 0), .pv (.int .i64 0), .pv (.int .i64 0), .pv (.int .i64 0), .pv (.int .i32 0), .pv (.int .i32 0), .pv (.int .i64 0), .pv (.bool false)]), s0 9 19 123]
def Q24r28 : List GOp := [f0 124 0 19, l0 125 1 124, f0 126 0 3, l0 127 1 126, p0 128 .eql 125 127]
def Q24r29 : List GOp := [t0 129 9 19, f0 130 5 3, l0 131 1 130, o0 132 (.call 0 0 (.cst (.fn 27)) [(.tmp 129), (.tmp 131)] [] []), m0 17 132]
def Q24r30 : List GOp := [q0 133 .add 120 1, m0 120 133]
def Q24l31 : AC := (.keep [] [(3, false), (15, false), (16, false), (17, false), (118, false), (119, false), (120, false)] [(.loc 3 0, false)] [.loc 14 0, .loc 5 0] [] (.seq (.ops Q24r26) (.seq (.cond (.tmp 121) .skip (.exit 2)) (.seq (.pass 3 (.seq (.ops Q24r27) (.seq (.ops Q24r28) (.cond (.tmp 128) (.ops Q24r29) .skip)))) (.keep [] [(3, false), (15, false), (16, false), (17, false), (118, false), (119, false), (120, false)] [(.loc 3 0, false)] [.loc 19 0] [] (.ops Q24r30))))))
def Q24r32 : List GOp := [o0 134 (.call 0 0 (.cst (.fn 13)) [] [] []), m0 135 134, g0 136 135 true (.mov (.tmp 16)), g0 137 135 true (.bin false .eql (.tmp 136) (.cst (.int .i64 0))), o0 138 (.pick (.tmp 135) (.tmp 137) (.cst (.bool false))), m0 139 138, g0 140 139 true (.mov (.tmp 15)), o0 141 (.pick (.tmp 139) (.tmp 140) (.cst (.bool false))), m0 142 141, g0 143 142 true (.mov (.tmp 17)), g0 144 142 true (.bin false .eql (.tmp 143) (.cst (.int .i64 0))), o0 145 (.pick (.tmp 142) (.tmp 144) (.cst (.bool false))), m0 4 145]
def Q24b : AC := (.seq (.ops Q24r0) (.seq (.ops Q24r1) (.seq (.ops Q24r2) (.seq (.seq (.ops Q24r3) (.cond (.tmp 30) (.seq (.ops Q24r4) (.keep [] [(4, false)] [] [.loc 14 0, .loc 2 0, .loc 3 0, .loc 5 0] [] .ret)) .skip)) (.seq (.seq (.ops Q24r5) (.block 0 (.loop [2, 3, 5, 6, 36] [] Q24l20))) (.seq (.keep [] [(3, false), (5, false), (6, false)] [(.loc 3 0, false), (.loc 5 0, false)] [.loc 2 0] [] (.ops Q24r21)) (.seq (.seq (.ops Q24r22) (.cond (.tmp 107) (.seq (.ops Q24r23) (.keep [] [(4, false)] [] [.loc 14 0, .loc 2 0, .loc 3 0, .loc 5 0] [] .ret)) .skip)) (.seq (.ops Q24r24) (.seq (.seq (.ops Q24r25) (.block 2 (.loop [3, 15, 16, 17, 118, 119, 120] [] Q24l31))) (.seq (.keep [] [(15, false), (16, false), (17, false)] [] [.loc 14 0, .loc 3 0, .loc 5 0] [] (.ops Q24r32)) (.keep [] [(4, false)] [] [.loc 14 0, .loc 2 0, .loc 3 0, .loc 5 0] [] .ret)))))))))))
def Q24 : Fd := ⟨2, [.tmp 4], [], Q24b⟩
theorem Q24_ag : agreeF Tryz.prog Tryz.f6 Q24 = true := by kernel_rfl
theorem cashbooklaw26_AvailCovers_ok {t1 : T_api_Till} {h2 : T_api_Hold} {r : Bool} (h : cashbooklaw26_AvailCovers t1 h2 = some r) : Contract Tryz.prog 6 [.pv (T_api_Till.pv t1), .pv (T_api_Hold.pv h2)] [] ⟨Vb r, [], []⟩ := by
 refine contract_fin hm Tryz.func6 Q24_ag (by kernel_rfl) ?_
 unfold cashbooklaw26_AvailCovers at h
 refine W.seqOps Aw ?_
 obtain ⟨x3, hx3, h⟩ := bindS h
 refine W.seqOps (Bw 1 (RunR.cons (Tw (cashbooklaw26_few_ok hx3) tab_nil) (Kw 7 [] (.pv (T_api_Till.pv x3)) Hw) Aw)) ?_
 obtain ⟨x4, hx4, h⟩ := bindS h
 refine W.seqOps (Bw 2 (RunR.cons (Tw (avail_Place_ok hx4) tab_nil) (Kw 19 [] (.tup [.pv (T_api_Till.pv x4.1), Vb x4.2.1, Vi x4.2.2]) Hw) Aw)) ?_
 refine W.assoc ?_
 refine W.seqOps Aw ?_
 refine W.seqCond (t := (x4.2.2 != 0)) (by kernel_rfl) h (fun hc h' => ?_) (fun hc h' => ?_)
 ·replace h := h'
  refine W.assoc ?_
  obtain ⟨x5, hx5, h⟩ := bindS h
  refine W.seqOps (RunR.cons (Tw (cashbooklaw26_alive_ok hx5) tab_nil) (Kw 13 [] (Vb x5) Hw) (Bw 1 (RunR.puts 3 [(35, Vb (x5 && (!x4.2.1))), (34, (Bf x5 (Vb (!x4.2.1)))), (33, (Bf x5 (Vb x4.2.1)))] (by cases x5 <;> kernel_rfl) Aw))) ?_
  refine W.seqKeep rfl ?_
  cases h
  exact W.seqRet Fw
 ·replace h := h'
  refine W.seqSkip ?_
  refine W.assoc ?_
  refine W.seqOps Aw ?_
  obtain ⟨j6, hj6, h⟩ := bindS h
  refine W.joinOut (j := j6) (o := r) (fun p σ => σ.tidy [] [(3, false), (5, false), (6, false)] [(.loc 3 0, false), (.loc 5 0, false)] [.loc 2 0] [] = ⟨[(3, .ptr (.loc 3 0) 0), (5, .ptr (.loc 5 0) 0), (6, Vb x4.2.1)], [(.loc 3 0, .box [Vi h2.f_ID, Vi h2.f_Acc, Vi h2.f_Amount.f_Cur, Vi h2.f_Amount.f_Minor, Vi h2.f_Rank, .pv (.int .i32 h2.f_Made), .pv (.int .i32 h2.f_Until), Vi h2.f_Taken, Vb h2.f_Done]), (.loc 5 0, .box [Vl T_api_Customer.pv x4.1.f_Chart.f_Customers, Vl T_api_Record.pv x4.1.f_Chart.f_Records, Vl T_api_Posting.pv x4.1.f_L, Vl T_api_Hold.pv x4.1.f_Holds, Vl T_api_Limit.pv x4.1.f_Limits])]⟩) ?_ (fun p σj6 hp hsj6 => ?_) (fun p hp => ?_)
  ·refine W.blockLoopO (fun q σ => ((σ.forget [2, 3, 5, 6, 36]).killAll []).tidy [] [(2, false), (3, false), (5, false), (6, false), (36, false)] [(.loc 2 0, false), (.loc 3 0, false), (.loc 5 0, false)] [] [] = ⟨[(2, .ptr (.loc 2 0) 0), (3, .ptr (.loc 3 0) 0), (5, .ptr (.loc 5 0) 0), (6, Vb x4.2.1), (36, Vi q)], [(.loc 2 0, .box [Vl T_api_Customer.pv x3.f_Chart.f_Customers, Vl T_api_Record.pv x3.f_Chart.f_Records, Vl T_api_Posting.pv x3.f_L, Vl T_api_Hold.pv x3.f_Holds, Vl T_api_Limit.pv x3.f_Limits]), (.loc 3 0, .box [Vi h2.f_ID, Vi h2.f_Acc, Vi h2.f_Amount.f_Cur, Vi h2.f_Amount.f_Minor, Vi h2.f_Rank, .pv (.int .i32 h2.f_Made), .pv (.int .i32 h2.f_Until), Vi h2.f_Taken, Vb h2.f_Done]), (.loc 5 0, .box [Vl T_api_Customer.pv x4.1.f_Chart.f_Customers, Vl T_api_Record.pv x4.1.f_Chart.f_Records, Vl T_api_Posting.pv x4.1.f_L, Vl T_api_Hold.pv x4.1.f_Holds, Vl T_api_Limit.pv x4.1.f_Limits])]⟩) hj6 ?_ ?_
   ·show _ = _
    kernel_rfl
   ·intro x7 σj6 oj6 hJj6 h
    refine W.keep hJj6 ?_
    refine W.seqOps Aw ?_
    refine W.seqCond (t := decide (x7 < 10)) (by kernel_rfl) h (fun hc h' => ?_) (fun hc h' => ?_)
    ·replace h := h'
     refine W.seqSkip ?_
     refine W.seqPass ?_
     refine W.assoc ?_
     refine W.seqOps Aw ?_
     refine W.assoc ?_
     obtain ⟨x8, hx8, h⟩ := bindS h
     refine W.seqOps (Bw 6 (RunR.cons (Tw (avail_Free_ok hx8) tab_nil) (Kw 9 [] (.tup [Vi x8.1, Vi x8.2]) Hw) Aw)) ?_
     refine W.assoc ?_
     obtain ⟨x9, hx9, h⟩ := bindS h
     refine W.seqOps (Bw 6 (RunR.cons (Tw (avail_Free_ok hx9) tab_nil) (Kw 9 [] (.tup [Vi x9.1, Vi x9.2]) Hw) Aw)) ?_
     refine W.assoc ?_
     refine W.assoc ?_
     obtain ⟨c10, hc10, h⟩ := bindS h
     refine W.seqOps (Bw 2 (RunR.dyn (Nw (x8.2 != 0) c10 hc10) (RunR.puts 3 [(64, Vb (c10 || (x9.2 != 0))), (63, (Bf (!c10) (Vb (x9.2 != 0)))), (62, (Bf (!c10) (Vi x9.2)))] (by cases c10 <;> kernel_rfl) ((.nil _))))) ?_
     refine W.seqCond (t := (c10 || (x9.2 != 0))) (by kernel_rfl) h (fun hc h' => ?_) (fun hc h' => ?_)
     ·replace h := h'
      refine W.assoc ?_
      refine W.seqOps Aw ?_
      refine W.seqKeep rfl ?_
      cases h
      exact W.seqRet ((outw_out ret_ne (bout_o ret_ne ret_ne' (fun e => by subst e; exact Fw))))
     ·replace h := h'
      refine W.seqSkip ?_
      refine W.assoc ?_
      refine W.assoc ?_
      obtain ⟨c11, hc11, h⟩ := bindS h
      refine W.seqOps (Bw 4 (RunR.dyn (Nw (x7 == h2.f_Rank) c11 hc11) (RunR.puts 8 [(77, Vb (c11 && (!(x4.2.1 == (decide (h2.f_Amount.f_Minor ≤ x8.1)))))), (76, (Bf c11 (Vb (!(x4.2.1 == (decide (h2.f_Amount.f_Minor ≤ x8.1))))))), (75, (Bf c11 (Vb (decide (h2.f_Amount.f_Minor ≤ x8.1))))), (74, (Bf c11 (Vi x8.1))), (73, (Bf c11 (Vi h2.f_Amount.f_Minor))), (72, (Bf c11 (.ptr (.loc 3 0) 3))), (71, (Bf c11 (.ptr (.loc 3 0) 2))), (70, (Bf c11 (Vb x4.2.1)))] (by cases c11 <;> kernel_rfl) ((.nil _))))) ?_
      refine W.seqCond (t := (c11 && (!(x4.2.1 == (decide (h2.f_Amount.f_Minor ≤ x8.1)))))) (by kernel_rfl) h (fun hc h' => ?_) (fun hc h' => ?_)
      ·replace h := h'
       refine W.assoc ?_
       refine W.seqOps Aw ?_
       refine W.seqKeep rfl ?_
       cases h
       exact W.seqRet ((outw_out ret_ne (bout_o ret_ne ret_ne' (fun e => by subst e; exact Fw))))
      ·replace h := h'
       refine W.seqSkip ?_
       refine W.assoc ?_
       refine W.seqOps Aw ?_
       refine W.assoc ?_
       refine W.assoc ?_
       obtain ⟨c12, hc12, h⟩ := bindS h
       refine W.seqOps (Bw 1 (RunR.dyn (Nw x4.2.1 c12 hc12) (RunR.puts 5 [(84, Vb (c12 && (decide (x7 ≤ h2.f_Rank)))), (83, (Bf c12 (Vb (decide (x7 ≤ h2.f_Rank))))), (82, (Bf c12 (Vi h2.f_Rank))), (81, (Bf c12 (.ptr (.loc 3 0) 4))), (80, (Bf c12 (Vi x7)))] (by cases c12 <;> kernel_rfl) ((.nil _))))) ?_
       obtain ⟨j13, hj13, h⟩ := bindS h
       refine W.join (j := j13) (fun p σ => σ.tidy [] [(2, false), (3, false), (5, false), (6, false), (9, false), (11, false), (13, false), (36, false)] [(.loc 2 0, false), (.loc 3 0, false), (.loc 5 0, false)] [] [] = ⟨[(2, .ptr (.loc 2 0) 0), (3, .ptr (.loc 3 0) 0), (5, .ptr (.loc 5 0) 0), (6, Vb x4.2.1), (9, Vi x8.1), (11, Vi x9.1), (13, Vi p), (36, Vi x7)], [(.loc 2 0, .box [Vl T_api_Customer.pv x3.f_Chart.f_Customers, Vl T_api_Record.pv x3.f_Chart.f_Records, Vl T_api_Posting.pv x3.f_L, Vl T_api_Hold.pv x3.f_Holds, Vl T_api_Limit.pv x3.f_Limits]), (.loc 3 0, .box [Vi h2.f_ID, Vi h2.f_Acc, Vi h2.f_Amount.f_Cur, Vi h2.f_Amount.f_Minor, Vi h2.f_Rank, .pv (.int .i32 h2.f_Made), .pv (.int .i32 h2.f_Until), Vi h2.f_Taken, Vb h2.f_Done]), (.loc 5 0, .box [Vl T_api_Customer.pv x4.1.f_Chart.f_Customers, Vl T_api_Record.pv x4.1.f_Chart.f_Records, Vl T_api_Posting.pv x4.1.f_L, Vl T_api_Hold.pv x4.1.f_Holds, Vl T_api_Limit.pv x4.1.f_Limits])]⟩) ?_ (fun σj13 hsj13 => ?_)
       ·replace h := hj13
        refine W.condI (t := (c12 && (decide (x7 ≤ h2.f_Rank)))) (by kernel_rfl) h (fun hc h' => ?_) (fun hc h' => ?_)
        ·replace h := h'
         refine W.ops Aw ?_
         cases h
         exact Jw
        ·replace h := h'
         cases h
         exact W.skip Jw
       ·refine W.assoc ?_
        refine W.seqKeep hsj13 ?_
        refine W.seqOps Aw ?_
        refine W.seqCond (t := (x9.1 != (IntKind.wrap .i64 (x8.1 - j13)))) (by kernel_rfl) h (fun hc h' => ?_) (fun hc h' => ?_)
        ·replace h := h'
         refine W.assoc ?_
         refine W.seqOps Aw ?_
         refine W.seqKeep rfl ?_
         cases h
         exact W.seqRet ((outw_out ret_ne (bout_o ret_ne ret_ne' (fun e => by subst e; exact Fw))))
        ·replace h := h'
         refine W.seqSkip ?_
         refine W.ops Aw ?_
         cases h
         exact Ow
    ·replace h := h'
     cases h
     exact W.seqExit ((outw_out exit_ne (bout_x (by (show _ = _); kernel_rfl))))
  ·subst hp
   obtain ⟨⟩ := p
   refine W.seqKeep hsj6 ?_
   obtain ⟨x15, hx15, h⟩ := bindS h
   refine W.seqOps (Bw 7 (RunR.cons (Tw (avail_Take_ok hx15) tab_nil) (Kw 20 [] (.tup [.pv (T_api_Till.pv x15.1), Vb x15.2.1, Vi x15.2.2]) Hw) Aw)) ?_
   refine W.assoc ?_
   refine W.seqOps Aw ?_
   refine W.seqCond (t := !x4.2.1) (by kernel_rfl) h (fun hc h' => ?_) (fun hc h' => ?_)
   ·replace h := h'
    refine W.assoc ?_
    obtain ⟨x16, hx16, h⟩ := bindS h
    obtain ⟨c17, hc17, h⟩ := bindS h
    refine W.seqOps (RunR.cons (Tw (cashbooklaw26_alive_ok hx16) tab_nil) (Kw 13 [] (Vb x16) Hw) (Bw 1 (RunR.puts 3 [(112, Vb (x16 && (x15.2.2 != 0))), (111, (Bf x16 (Vb (x15.2.2 != 0)))), (110, (Bf x16 (Vi x15.2.2)))] (by cases x16 <;> kernel_rfl) (RunR.dyn (Nw (x16 && (x15.2.2 != 0)) c17 hc17) (RunR.puts 3 [(116, Vb (c17 && (!x15.2.1))), (115, (Bf c17 (Vb (!x15.2.1)))), (114, (Bf c17 (Vb x15.2.1)))] (by cases c17 <;> kernel_rfl) Aw))))) ?_
    refine W.seqKeep rfl ?_
    cases h
    exact W.seqRet Fw
   ·replace h := h'
    refine W.seqSkip ?_
    refine W.seqOps Aw ?_
    refine W.assoc ?_
    refine W.seqOps (Bw 2 (RunR.dyn (Lw T_api_Hold.pv x15.1.f_Holds) Aw)) ?_
    obtain ⟨j18, hj18, h⟩ := bindS h
    refine W.join (j := j18) (fun p σ => σ.tidy [] [(15, false), (16, false), (17, false)] [] [.loc 14 0, .loc 3 0, .loc 5 0] [] = ⟨[(15, Vb x15.2.1), (16, Vi x15.2.2), (17, Vi p)], []⟩) ?_ (fun σj18 hsj18 => ?_)
    ·refine W.blockLoop (fun q σ => ((σ.forget [3, 15, 16, 17, 118, 119, 120]).killAll []).tidy [] [(3, false), (15, false), (16, false), (17, false), (118, false), (119, false), (120, false)] [(.loc 3 0, false)] [.loc 14 0, .loc 5 0] [] = ⟨[(3, .ptr (.loc 3 0) 0), (15, Vb x15.2.1), (16, Vi x15.2.2), (17, Vi q.1), (118, Vl T_api_Hold.pv x15.1.f_Holds), (119, Vi (x15.1.f_Holds.length : Int)), (120, Vi q.2)], [(.loc 3 0, .box [Vi h2.f_ID, Vi h2.f_Acc, Vi h2.f_Amount.f_Cur, Vi h2.f_Amount.f_Minor, Vi h2.f_Rank, .pv (.int .i32 h2.f_Made), .pv (.int .i32 h2.f_Until), Vi h2.f_Taken, Vb h2.f_Done])]⟩) hj18 ?_ ?_
     ·show _ = _
      kernel_rfl
     ·intro q σj18 oj18 hJj18 h
      obtain ⟨rest19, x20⟩ := q
      refine W.keep hJj18 ?_
      refine W.seqOps Aw ?_
      refine W.seqCond (t := decide (x20 < (x15.1.f_Holds.length : Int))) (by kernel_rfl) h (fun hc h' => ?_) (fun hc h' => ?_)
      ·replace h := h'
       refine W.seqSkip ?_
       refine W.seqPass ?_
       refine W.assoc ?_
       obtain ⟨x21, hx21, h⟩ := bindS h
       refine W.seqOps (RunR.dyn (Iw T_api_Hold.pv x15.1.f_Holds x20 x21 hx21) Aw) ?_
       refine W.assoc ?_
       refine W.seqOps Aw ?_
       obtain ⟨j22, hj22, h⟩ := bindS h
       refine W.join (j := j22) (fun p σ => σ.tidy [] [(3, false), (15, false), (16, false), (17, false), (118, false), (119, false), (120, false)] [(.loc 3 0, false)] [.loc 19 0] [] = ⟨[(3, .ptr (.loc 3 0) 0), (15, Vb x15.2.1), (16, Vi x15.2.2), (17, Vi p), (118, Vl T_api_Hold.pv x15.1.f_Holds), (119, Vi (x15.1.f_Holds.length : Int)), (120, Vi x20)], [(.loc 3 0, .box [Vi h2.f_ID, Vi h2.f_Acc, Vi h2.f_Amount.f_Cur, Vi h2.f_Amount.f_Minor, Vi h2.f_Rank, .pv (.int .i32 h2.f_Made), .pv (.int .i32 h2.f_Until), Vi h2.f_Taken, Vb h2.f_Done])]⟩) ?_ (fun σj22 hsj22 => ?_)
       ·replace h := hj22
        refine W.condI (t := (x21.f_ID == h2.f_ID)) (by kernel_rfl) h (fun hc h' => ?_) (fun hc h' => ?_)
        ·replace h := h'
         obtain ⟨x23, hx23, h⟩ := bindS h
         refine W.ops (Bw 3 (RunR.cons (Tw (hold_Rest_ok hx23) tab_nil) (Kw 27 [] (Vi x23) Hw) Aw)) ?_
         cases h
         exact Jw
        ·replace h := h'
         cases h
         exact W.skip Jw
       ·refine W.keep hsj22 ?_
        refine W.ops Aw ?_
        cases h
        exact Ow
      ·replace h := h'
       cases h
       exact W.seqExit ((outw_out exit_ne (bnorm_x (by (show _ = _); kernel_rfl))))
    ·refine W.seqKeep hsj18 ?_
     obtain ⟨x26, hx26, h⟩ := bindS h
     obtain ⟨c27, hc27, h⟩ := bindS h
     obtain ⟨c28, hc28, h⟩ := bindS h
     refine W.seqOps (RunR.cons (Tw (cashbooklaw26_alive_ok hx26) tab_nil) (Kw 13 [] (Vb x26) Hw) (Bw 1 (RunR.puts 3 [(138, Vb (x26 && (x15.2.2 == 0))), (137, (Bf x26 (Vb (x15.2.2 == 0)))), (136, (Bf x26 (Vi x15.2.2)))] (by cases x26 <;> kernel_rfl) (RunR.dyn (Nw (x26 && (x15.2.2 == 0)) c27 hc27) (RunR.puts 2 [(141, Vb (c27 && x15.2.1)), (140, (Bf c27 (Vb x15.2.1)))] (by cases c27 <;> kernel_rfl) (RunR.dyn (Nw (c27 && x15.2.1) c28 hc28) (RunR.puts 3 [(145, Vb (c28 && (j18 == 0))), (144, (Bf c28 (Vb (j18 == 0)))), (143, (Bf c28 (Vi j18)))] (by cases c28 <;> kernel_rfl) Aw))))))) ?_
     refine W.keep rfl ?_
     cases h
     exact W.ret Fw
  ·subst hp
   exact Option.some.inj h
end Go.Av.G
end
