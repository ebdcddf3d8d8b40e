import Derived.Test.YtkcilagjhieapaaGreatDoorC15
section
set_option linter.unusedVariables false
set_option linter.unusedSimpArgs false
set_option maxRecDepth 100000
set_option maxHeartbeats 8000000
namespace Go.Av.G
open Go Go.Av Go.Proofs
def Q18r0 : List GOp := [o0 4 (.box (.tmp 0)), o0 7 (.box (.tmp 3)), b0 8 false]
def Q18r1 : List GOp := [t0 28 5 4, o0 29 (.call 0 0 (.cst (.fn 7)) [(.tmp 28)] [] []), s0 5 4 29]
def Q18r2 : List GOp := [t0 31 5 4, m0 32 1, m0 33 2, o0 34 (.call 0 0 (.cst (.fn 8)) [(.tmp 31), (.tmp 32), (.tmp 33)] [] []), m0 30 34, o0 35 (.ext 0 (.tmp 30)), o0 36 (.ext 1 (.tmp 30)), m0 9 35, m0 10 36]
def Q18r3 : List GOp := [m0 37 10, q0 38 .neq 37 0]
def Q18r4 : List GOp := [o0 39 (.call 0 0 (.cst (.fn 13)) [] [] []), m0 40 39, g0 41 40 true (.mov (.tmp 9)), g0 42 40 true (.bin false .eql (.tmp 41) (.cst (.int .i64 0))), o0 43 (.pick (.tmp 40) (.tmp 42) (.cst (.bool false))), m0 8 43]
def Q18r5 : List GOp := [t0 44 5 4, o0 11 (.alloc [.nils, .nils, .nils, .nils, .nils]), s0 5 11 44]
def Q18r6 : List GOp := [f0 45 3 11, n0 (.store 1 (.tmp 45) .nils)]
def Q18r7 : List GOp := [t0 47 5 11, m0 48 1, m0 49 2, o0 50 (.call 0 0 (.cst (.fn 9)) [(.tmp 47), (.tmp 48), (.tmp 49), (.cst (.int .i64 0))] [] []), m0 46 50, o0 51 (.ext 0 (.tmp 46)), o0 52 (.ext 1 (.tmp 46)), m0 12 51, m0 13 52]
def Q18r8 : List GOp := [k0 14 0]
def Q18r9 : List GOp := [k0 53 0]
def Q18r10 : List GOp := [q0 54 .lss 53 10]
def Q18r11 : List GOp := [m0 55 53, m0 15 55]
def Q18r12 : List GOp := [t0 57 5 4, m0 58 1, m0 59 2, m0 60 15, o0 61 (.call 0 0 (.cst (.fn 9)) [(.tmp 57), (.tmp 58), (.tmp 59), (.tmp 60)] [] []), m0 56 61, o0 62 (.ext 0 (.tmp 56)), o0 63 (.ext 1 (.tmp 56)), m0 16 62, m0 17 63]
def Q18r13 : List GOp := [t0 65 5 11, m0 66 1, m0 67 2, m0 68 15, o0 69 (.call 0 0 (.cst (.fn 9)) [(.tmp 65), (.tmp 66), (.tmp 67), (.tmp 68)] [] []), m0 64 69, o0 70 (.ext 0 (.tmp 64)), o0 71 (.ext 1 (.tmp 64)), m0 18 70, m0 19 71]
def Q18r14 : List GOp := [m0 72 17, q0 73 .neq 72 0, m0 74 73, g0 75 74 false (.mov (.tmp 19)), g0 76 74 false (.bin false .neq (.tmp 75) (.cst (.int .i64 0))), o0 77 (.pick (.tmp 74) (.cst (.bool true)) (.tmp 76)), m0 78 77, g0 79 78 false (.mov (.tmp 18)), g0 80 78 false (.mov (.tmp 12)), g0 81 78 false (.bin false .neq (.tmp 79) (.tmp 80)), o0 82 (.pick (.tmp 78) (.cst (.bool true)) (.tmp 81)), m0 83 82, g0 84 83 false (.mov (.tmp 16)), g0 85 83 false (.mov (.tmp 12)), g0 86 83 false (.bin false .gtr (.tmp 84) (.tmp 85)), o0 87 (.pick (.tmp 83) (.cst (.bool true)) (.tmp 86)), m0 88 87, g0 89 88 false (.mov (.tmp 15)), g0 90 88 false (.bin false .gtr (.tmp 89) (.cst (.int .i64 0))), g0 91 88 false (.mov (.tmp 90)), g0 92 91 true (.mov (.tmp 16)), g0 93 91 true (.mov (.tmp 14)), g0 94 91 true (.bin false .lss (.tmp 92) (.tmp 93)), g0 95 88 false (.pick (.tmp 91) (.tmp 94) (.cst (.bool false))), o0 96 (.pick (.tmp 88) (.cst (.bool true)) (.tmp 95))]
def Q18r15 : List GOp := [b0 8 false]
def Q18r16 : List GOp := [m0 97 16, m0 14 97]
def Q18r17 : List GOp := [q0 98 .add 53 1, m0 53 98]
def Q18l18 : AC := (.keep [] [(1, false), (2, false), (4, false), (7, false), (9, false), (11, false), (12, false), (13, false), (14, false), (53, false)] [(.loc 11 0, false), (.loc 4 0, false), (.loc 7 0, false)] [] [] (.seq (.ops Q18r10) (.seq (.cond (.tmp 54) .skip (.exit 0)) (.seq (.pass 1 (.seq (.ops Q18r11) (.seq (.ops Q18r12) (.seq (.ops Q18r13) (.seq (.seq (.ops Q18r14) (.cond (.tmp 96) (.seq (.ops Q18r15) (.keep [] [(8, false)] [] [.loc 11 0, .loc 25 0, .loc 4 0, .loc 7 0] [] .ret)) .skip)) (.ops Q18r16)))))) (.ops Q18r17)))))
def Q18r19 : List GOp := [t0 100 5 4, m0 101 1, t0 102 2 7, m0 103 2, o0 104 (.call 0 0 (.cst (.fn 10)) [(.tmp 100), (.tmp 101), (.tmp 102), (.tmp 103)] [] []), m0 99 104, o0 105 (.ext 0 (.tmp 99)), o0 106 (.ext 1 (.tmp 99)), m0 20 105, m0 21 106]
def Q18r20 : List GOp := [m0 107 13, q0 108 .neq 107 0, m0 109 108, g0 110 109 false (.mov (.tmp 12)), g0 111 109 false (.mov (.tmp 9)), g0 112 109 false (.bin false .lss (.tmp 110) (.tmp 111)), o0 113 (.pick (.tmp 109) (.cst (.bool true)) (.tmp 112)), m0 114 113, g0 115 114 false (.call 0 0 (.cst (.fn 13)) [] [] []), g0 116 114 false (.un .not (.tmp 115)), o0 117 (.pick (.tmp 114) (.cst (.bool true)) (.tmp 116))]
def Q18r21 : List GOp := [b0 8 false]
def Q18r22 : List GOp := [m0 118 21, q0 119 .neq 118 0, m0 120 119, g0 121 120 false (.mov (.tmp 20)), g0 122 120 false (.un .not (.tmp 121)), o0 123 (.pick (.tmp 120) (.cst (.bool true)) (.tmp 122))]
def Q18r23 : List GOp := [m0 124 20, o0 125 (.un .not (.tmp 124)), m0 8 125]
def Q18r24 : List GOp := [k0 22 1]
def Q18r25 : List GOp := [f0 126 3 4, l0 127 1 126, e0 128 127, k0 129 0]
def Q18r26 : List GOp := [p0 130 .lss 129 128]
def Q18r27 : List GOp := [i0 131 9 127 129, t0 132 9 131, o0 24 (.alloc [.pv (.int .i64 0), .pv (.int .i64 0), .pv (.int .i64 0), .pv (.int .i64 0), .pv (.int .i64 0), .pv (.int .i32 0), .pv (.int .i32 0), .pv (.int .i64 0), .pv (.bool false)]), s0 9 24 132]
def Q18r28 : List GOp := [m0 133 22, f0 134 0 24, l0 135 1 134, q0 136 .add 135 1, o0 137 (.mm true (.tmp 133) [(.tmp 136)]), m0 22 137]
def Q18r29 : List GOp := [q0 138 .add 129 1, m0 129 138]
def Q18l30 : AC := (.keep [] [(1, false), (2, false), (4, false), (7, false), (22, false), (127, false), (128, false), (129, false)] [(.loc 4 0, false), (.loc 7 0, false)] [.loc 24 0] [] (.seq (.ops Q18r26) (.seq (.cond (.tmp 130) .skip (.exit 2)) (.seq (.pass 3 (.seq (.ops Q18r27) (.ops Q18r28))) (.ops Q18r29)))))
def Q18r31 : List GOp := [t0 140 5 4, m0 141 22, o0 142 (.mm false (.tmp 141) [(.cst (.int .i64 1000000))]), m0 143 1, t0 144 2 7, m0 145 2, m0 146 2, o0 147 (.build [.pv (.int .i64 0), .pv (.int .i64 0), .pv (.int .i64 0), .pv (.int .i64 0), .pv (.int .i64 0), .pv (.int .i32 0), .pv (.int .i32 0), .pv (.int .i64 0), .pv (.bool false)] [(0, 1, (.tmp 142)), (1, 1, (.tmp 143)), (2, 2, (.tmp 144)), (5, 1, (.tmp 145)), (6, 1, (.tmp 146))]), o0 148 (.call 0 0 (.cst (.fn 19)) [(.tmp 140), (.tmp 147)] [] []), m0 139 148, o0 149 (.ext 0 (.tmp 139)), o0 150 (.ext 1 (.tmp 139)), o0 151 (.ext 2 (.tmp 139)), o0 25 (.alloc [.nils, .nils, .nils, .nils, .nils]), s0 5 25 149, m0 26 150, m0 27 151]
def Q18r32 : List GOp := [m0 152 27, q0 153 .eql 152 0, m0 154 153, g0 155 154 true (.mov (.tmp 26)), o0 156 (.pick (.tmp 154) (.tmp 155) (.cst (.bool false))), m0 157 156, g0 158 157 true (.fld 3 (.tmp 25)), g0 159 157 true (.load false 1 (.tmp 158)), g0 160 157 true (.len false (.tmp 159)), g0 161 157 true (.fld 3 (.tmp 4)), g0 162 157 true (.load false 1 (.tmp 161)), g0 163 157 true (.len false (.tmp 162)), g0 164 157 true (.bin false .add (.tmp 163) (.cst (.int .i64 1))), g0 165 157 true (.bin false .eql (.tmp 160) (.tmp 164)), o0 166 (.pick (.tmp 157) (.tmp 165) (.cst (.bool false))), m0 167 166, g0 168 167 false (.mov (.tmp 27)), g0 169 167 false (.bin false .eql (.tmp 168) (.cst (.int .i64 26))), o0 170 (.pick (.tmp 167) (.cst (.bool true)) (.tmp 169)), m0 171 170, g0 172 171 false (.mov (.tmp 27)), g0 173 171 false (.bin false .eql (.tmp 172) (.cst (.int .i64 6))), o0 174 (.pick (.tmp 171) (.cst (.bool true)) (.tmp 173)), m0 8 174]
def Q18b : AC := (.seq (.ops Q18r0) (.seq (.ops Q18r1) (.seq (.ops Q18r2) (.seq (.seq (.ops Q18r3) (.cond (.tmp 38) (.seq (.ops Q18r4) (.keep [] [(8, false)] [] [.loc 11 0, .loc 25 0, .loc 4 0, .loc 7 0] [] .ret)) .skip)) (.seq (.ops Q18r5) (.seq (.ops Q18r6) (.seq (.ops Q18r7) (.seq (.ops Q18r8) (.seq (.seq (.ops Q18r9) (.block 0 (.loop [1, 2, 4, 7, 9, 11, 12, 13, 14, 53] [] Q18l18))) (.seq (.keep [] [(1, false), (2, false), (4, false), (7, false), (9, false), (12, false), (13, false)] [(.loc 4 0, false), (.loc 7 0, false)] [.loc 11 0] [] (.ops Q18r19)) (.seq (.seq (.ops Q18r20) (.cond (.tmp 117) (.seq (.ops Q18r21) (.keep [] [(8, false)] [] [.loc 11 0, .loc 25 0, .loc 4 0, .loc 7 0] [] .ret)) .skip)) (.seq (.seq (.ops Q18r22) (.cond (.tmp 123) (.seq (.ops Q18r23) (.keep [] [(8, false)] [] [.loc 11 0, .loc 25 0, .loc 4 0, .loc 7 0] [] .ret)) .skip)) (.seq (.ops Q18r24) (.seq (.seq (.ops Q18r25) (.block 2 (.loop [1, 2, 4, 7, 22, 127, 128, 129] [] Q18l30))) (.seq (.keep [] [(1, false), (2, false), (4, false), (7, false), (22, false)] [(.loc 4 0, false), (.loc 7 0, false)] [] [] (.ops Q18r31)) (.seq (.ops Q18r32) (.keep [] [(8, false)] [] [.loc 11 0, .loc 25 0, .loc 4 0, .loc 7 0] [] .ret)))))))))))))))))
def Q18 : Fd := ⟨4, [.tmp 8], [], Q18b⟩
theorem Q18_ag : agreeF Tryz.prog Tryz.f4 Q18 = true := by kernel_rfl
theorem cashbooklaw26_AvailRanks_ok {t1 : T_api_Till} {acc2 : Int} {now3 : Int} {amount4 : T_api_Money} {r : Bool} (h : cashbooklaw26_AvailRanks t1 acc2 now3 amount4 = some r) : Contract Tryz.prog 4 [.pv (T_api_Till.pv t1), Vi acc2, .pv (.int .i32 now3), .pv (T_api_Money.pv amount4)] [] ⟨Vb r, [], []⟩ := by
 refine contract_fin hm Tryz.func4 Q18_ag (by kernel_rfl) ?_
 unfold cashbooklaw26_AvailRanks at h
 refine W.seqOps Aw ?_
 obtain ⟨x5, hx5, h⟩ := bindS h
 refine W.seqOps (Bw 1 (RunR.cons (Tw (cashbooklaw26_few_ok hx5) tab_nil) (Kw 7 [] (.pv (T_api_Till.pv x5)) Hw) Aw)) ?_
 obtain ⟨x6, hx6, h⟩ := bindS h
 refine W.seqOps (Bw 3 (RunR.cons (Tw (avail_Funds_ok hx6) tab_nil) (Kw 8 [] (.tup [Vi x6.1, Vi x6.2]) Hw) Aw)) ?_
 refine W.assoc ?_
 refine W.seqOps Aw ?_
 refine W.seqCond (t := (x6.2 != 0)) (by kernel_rfl) h (fun hc h' => ?_) (fun hc h' => ?_)
 ·replace h := h'
  refine W.assoc ?_
  obtain ⟨x7, hx7, h⟩ := bindS h
  refine W.seqOps (RunR.cons (Tw (cashbooklaw26_alive_ok hx7) tab_nil) (Kw 13 [] (Vb x7) Hw) (Bw 1 (RunR.puts 3 [(43, Vb (x7 && (x6.1 == 0))), (42, (Bf x7 (Vb (x6.1 == 0)))), (41, (Bf x7 (Vi x6.1)))] (by cases x7 <;> kernel_rfl) Aw))) ?_
  refine W.seqKeep rfl ?_
  cases h
  exact W.seqRet Fw
 ·replace h := h'
  refine W.seqSkip ?_
  refine W.seqOps Aw ?_
  refine W.seqOps Aw ?_
  obtain ⟨x8, hx8, h⟩ := bindS h
  refine W.seqOps (Bw 3 (RunR.cons (Tw (avail_Free_ok hx8) tab_nil) (Kw 9 [] (.tup [Vi x8.1, Vi x8.2]) Hw) Aw)) ?_
  refine W.seqOps Aw ?_
  refine W.assoc ?_
  refine W.seqOps Aw ?_
  obtain ⟨j9, hj9, h⟩ := bindS h
  refine W.joinOut (j := j9) (o := r) (fun p σ => σ.tidy [] [(1, false), (2, false), (4, false), (7, false), (9, false), (12, false), (13, false)] [(.loc 4 0, false), (.loc 7 0, false)] [.loc 11 0] [] = ⟨[(1, Vi acc2), (2, .pv (.int .i32 now3)), (4, .ptr (.loc 4 0) 0), (7, .ptr (.loc 7 0) 0), (9, Vi x6.1), (12, Vi x8.1), (13, Vi x8.2)], [(.loc 4 0, .box [Vl T_api_Customer.pv x5.f_Chart.f_Customers, Vl T_api_Record.pv x5.f_Chart.f_Records, Vl T_api_Posting.pv x5.f_L, Vl T_api_Hold.pv x5.f_Holds, Vl T_api_Limit.pv x5.f_Limits]), (.loc 7 0, .box [Vi amount4.f_Cur, Vi amount4.f_Minor])]⟩) ?_ (fun p σj9 hp hsj9 => ?_) (fun p hp => ?_)
  ·refine W.blockLoopO (fun q σ => ((σ.forget [1, 2, 4, 7, 9, 11, 12, 13, 14, 53]).killAll []).tidy [] [(1, false), (2, false), (4, false), (7, false), (9, false), (11, false), (12, false), (13, false), (14, false), (53, false)] [(.loc 11 0, false), (.loc 4 0, false), (.loc 7 0, false)] [] [] = ⟨[(1, Vi acc2), (2, .pv (.int .i32 now3)), (4, .ptr (.loc 4 0) 0), (7, .ptr (.loc 7 0) 0), (9, Vi x6.1), (11, .ptr (.loc 11 0) 0), (12, Vi x8.1), (13, Vi x8.2), (14, Vi q.1), (53, Vi q.2)], [(.loc 11 0, .box [Vl T_api_Customer.pv x5.f_Chart.f_Customers, Vl T_api_Record.pv x5.f_Chart.f_Records, Vl T_api_Posting.pv x5.f_L, .nils, Vl T_api_Limit.pv x5.f_Limits]), (.loc 4 0, .box [Vl T_api_Customer.pv x5.f_Chart.f_Customers, Vl T_api_Record.pv x5.f_Chart.f_Records, Vl T_api_Posting.pv x5.f_L, Vl T_api_Hold.pv x5.f_Holds, Vl T_api_Limit.pv x5.f_Limits]), (.loc 7 0, .box [Vi amount4.f_Cur, Vi amount4.f_Minor])]⟩) hj9 ?_ ?_
   ·show _ = _
    kernel_rfl
   ·intro q σj9 oj9 hJj9 h
    obtain ⟨last10, x11⟩ := q
    refine W.keep hJj9 ?_
    refine W.seqOps Aw ?_
    refine W.seqCond (t := decide (x11 < 10)) (by kernel_rfl) h (fun hc h' => ?_) (fun hc h' => ?_)
    ·replace h := h'
     refine W.seqSkip ?_
     refine W.seqPass ?_
     refine W.assoc ?_
     refine W.seqOps Aw ?_
     refine W.assoc ?_
     obtain ⟨x12, hx12, h⟩ := bindS h
     refine W.seqOps (Bw 4 (RunR.cons (Tw (avail_Free_ok hx12) tab_nil) (Kw 9 [] (.tup [Vi x12.1, Vi x12.2]) Hw) Aw)) ?_
     refine W.assoc ?_
     obtain ⟨x13, hx13, h⟩ := bindS h
     refine W.seqOps (Bw 4 (RunR.cons (Tw (avail_Free_ok hx13) tab_nil) (Kw 9 [] (.tup [Vi x13.1, Vi x13.2]) Hw) Aw)) ?_
     refine W.assoc ?_
     refine W.assoc ?_
     obtain ⟨c14, hc14, h⟩ := bindS h
     obtain ⟨c15, hc15, h⟩ := bindS h
     obtain ⟨c16, hc16, h⟩ := bindS h
     obtain ⟨c17, hc17, h⟩ := bindS h
     obtain ⟨c18, hc18, h⟩ := bindS h
     refine W.seqOps (Bw 2 (RunR.dyn (Nw (x12.2 != 0) c14 hc14) (RunR.puts 3 [(77, Vb (c14 || (x13.2 != 0))), (76, (Bf (!c14) (Vb (x13.2 != 0)))), (75, (Bf (!c14) (Vi x13.2)))] (by cases c14 <;> kernel_rfl) (RunR.dyn (Nw (c14 || (x13.2 != 0)) c15 hc15) (RunR.puts 4 [(82, Vb (c15 || (x13.1 != x8.1))), (81, (Bf (!c15) (Vb (x13.1 != x8.1)))), (80, (Bf (!c15) (Vi x8.1))), (79, (Bf (!c15) (Vi x13.1)))] (by cases c15 <;> kernel_rfl) (RunR.dyn (Nw (c15 || (x13.1 != x8.1)) c16 hc16) (RunR.puts 4 [(87, Vb (c16 || (decide (x12.1 > x8.1)))), (86, (Bf (!c16) (Vb (decide (x12.1 > x8.1))))), (85, (Bf (!c16) (Vi x8.1))), (84, (Bf (!c16) (Vi x12.1)))] (by cases c16 <;> kernel_rfl) (RunR.dyn (Nw (c16 || (decide (x12.1 > x8.1))) c17 hc17) (RunR.puts 2 [(90, (Bf (!c17) (Vb (decide (x11 > 0))))), (89, (Bf (!c17) (Vi x11)))] (by cases c17 <;> kernel_rfl) (RunR.dyn (Step.gdG (!c17) (by kernel_rfl) (by
        cases c17
        ·exact .inr ⟨by kernel_rfl, by kernel_rfl, Nw (decide (x11 > 0)) c18 hc18⟩
        ·exact .inl ⟨by kernel_rfl, by kernel_rfl⟩)) (RunR.puts 5 [(96, Vb (c17 || (c18 && (decide (x12.1 < last10))))), (95, (Bf (!c17) (Vb (c18 && (decide (x12.1 < last10)))))), (94, (Bf ((!c17) && c18) (Vb (decide (x12.1 < last10))))), (93, (Bf ((!c17) && c18) (Vi last10))), (92, (Bf ((!c17) && c18) (Vi x12.1)))] (by cases c17 <;> cases c18 <;> kernel_rfl) ((.nil _))))))))))))) ?_
     refine W.seqCond (t := (c17 || (c18 && (decide (x12.1 < last10))))) (by kernel_rfl) h (fun hc h' => ?_) (fun hc h' => ?_)
     ·replace h := h'
      refine W.assoc ?_
      refine W.seqOps Aw ?_
      refine W.seqKeep rfl ?_
      cases h
      exact W.seqRet ((outw_out ret_ne (bout_o ret_ne ret_ne' (fun e => by subst e; exact Fw))))
     ·replace h := h'
      refine W.seqSkip ?_
      refine W.seqOps Aw ?_
      refine W.ops Aw ?_
      cases h
      exact Ow
    ·replace h := h'
     cases h
     exact W.seqExit ((outw_out exit_ne (bout_x (by (show _ = _); kernel_rfl))))
  ·subst hp
   obtain ⟨⟩ := p
   refine W.seqKeep hsj9 ?_
   obtain ⟨x19, hx19, h⟩ := bindS h
   refine W.seqOps (Bw 4 (RunR.cons (Tw (avail_Pay_ok hx19) tab_nil) (Kw 10 [] (.tup [Vb x19.1, Vi x19.2]) Hw) Aw)) ?_
   refine W.assoc ?_
   obtain ⟨c20, hc20, h⟩ := bindS h
   obtain ⟨c21, hc21, h⟩ := bindS h
   obtain ⟨x22, hx22, h⟩ := bindS h
   refine W.seqOps (Bw 2 (RunR.dyn (Nw (x8.2 != 0) c20 hc20) (RunR.puts 4 [(113, Vb (c20 || (decide (x8.1 < x6.1)))), (112, (Bf (!c20) (Vb (decide (x8.1 < x6.1))))), (111, (Bf (!c20) (Vi x6.1))), (110, (Bf (!c20) (Vi x8.1)))] (by cases c20 <;> kernel_rfl) (RunR.dyn (Nw (c20 || (decide (x8.1 < x6.1))) c21 hc21) (RunR.cons (tab_cons (on := (!c21)) (fun hg => cashbooklaw26_alive_ok (gdO_at hg hx22)) tab_nil) (Step.gdG (!c21) (by kernel_rfl) (by
      cases c21
      ·exact .inr ⟨by kernel_rfl, by kernel_rfl, Kw 13 [] (Vb x22) Hw⟩
      ·exact .inl ⟨by kernel_rfl, by kernel_rfl⟩)) (RunR.puts 2 [(117, Vb (c21 || (!x22))), (116, (Bf (!c21) (Vb (!x22))))] (by cases c21 <;> kernel_rfl) ((.nil _)))))))) ?_
   refine W.seqCond (t := (c21 || (!x22))) (by kernel_rfl) h (fun hc h' => ?_) (fun hc h' => ?_)
   ·replace h := h'
    refine W.assoc ?_
    refine W.seqOps Aw ?_
    refine W.seqKeep rfl ?_
    cases h
    exact W.seqRet Fw
   ·replace h := h'
    refine W.seqSkip ?_
    refine W.assoc ?_
    obtain ⟨c23, hc23, h⟩ := bindS h
    refine W.seqOps (Bw 2 (RunR.dyn (Nw (x19.2 != 0) c23 hc23) (RunR.puts 3 [(123, Vb (c23 || (!x19.1))), (122, (Bf (!c23) (Vb (!x19.1)))), (121, (Bf (!c23) (Vb x19.1)))] (by cases c23 <;> kernel_rfl) ((.nil _))))) ?_
    refine W.seqCond (t := (c23 || (!x19.1))) (by kernel_rfl) h (fun hc h' => ?_) (fun hc h' => ?_)
    ·replace h := h'
     refine W.assoc ?_
     refine W.seqOps Aw ?_
     refine W.seqKeep rfl ?_
     cases h
     exact W.seqRet Fw
    ·replace h := h'
     refine W.seqSkip ?_
     refine W.seqOps Aw ?_
     refine W.assoc ?_
     refine W.seqOps (Bw 2 (RunR.dyn (Lw T_api_Hold.pv x5.f_Holds) Aw)) ?_
     obtain ⟨j24, hj24, h⟩ := bindS h
     refine W.join (j := j24) (fun p σ => σ.tidy [] [(1, false), (2, false), (4, false), (7, false), (22, false)] [(.loc 4 0, false), (.loc 7 0, false)] [] [] = ⟨[(1, Vi acc2), (2, .pv (.int .i32 now3)), (4, .ptr (.loc 4 0) 0), (7, .ptr (.loc 7 0) 0), (22, Vi p)], [(.loc 4 0, .box [Vl T_api_Customer.pv x5.f_Chart.f_Customers, Vl T_api_Record.pv x5.f_Chart.f_Records, Vl T_api_Posting.pv x5.f_L, Vl T_api_Hold.pv x5.f_Holds, Vl T_api_Limit.pv x5.f_Limits]), (.loc 7 0, .box [Vi amount4.f_Cur, Vi amount4.f_Minor])]⟩) ?_ (fun σj24 hsj24 => ?_)
     ·refine W.blockLoop (fun q σ => ((σ.forget [1, 2, 4, 7, 22, 127, 128, 129]).killAll []).tidy [] [(1, false), (2, false), (4, false), (7, false), (22, false), (127, false), (128, false), (129, false)] [(.loc 4 0, false), (.loc 7 0, false)] [.loc 24 0] [] = ⟨[(1, Vi acc2), (2, .pv (.int .i32 now3)), (4, .ptr (.loc 4 0) 0), (7, .ptr (.loc 7 0) 0), (22, Vi q.1), (127, Vl T_api_Hold.pv x5.f_Holds), (128, Vi (x5.f_Holds.length : Int)), (129, Vi q.2)], [(.loc 4 0, .box [Vl T_api_Customer.pv x5.f_Chart.f_Customers, Vl T_api_Record.pv x5.f_Chart.f_Records, Vl T_api_Posting.pv x5.f_L, Vl T_api_Hold.pv x5.f_Holds, Vl T_api_Limit.pv x5.f_Limits]), (.loc 7 0, .box [Vi amount4.f_Cur, Vi amount4.f_Minor])]⟩) hj24 ?_ ?_
      ·show _ = _
       kernel_rfl
      ·intro q σj24 oj24 hJj24 h
       obtain ⟨top25, x26⟩ := q
       refine W.keep hJj24 ?_
       refine W.seqOps Aw ?_
       refine W.seqCond (t := decide (x26 < (x5.f_Holds.length : Int))) (by kernel_rfl) h (fun hc h' => ?_) (fun hc h' => ?_)
       ·replace h := h'
        refine W.seqSkip ?_
        refine W.seqPass ?_
        refine W.assoc ?_
        obtain ⟨x27, hx27, h⟩ := bindS h
        refine W.seqOps (RunR.dyn (Iw T_api_Hold.pv x5.f_Holds x26 x27 hx27) Aw) ?_
        refine W.seqOps Aw ?_
        refine W.ops Aw ?_
        cases h
        exact Ow
       ·replace h := h'
        cases h
        exact W.seqExit ((outw_out exit_ne (bnorm_x (by (show _ = _); kernel_rfl))))
     ·refine W.seqKeep hsj24 ?_
      obtain ⟨x29, hx29, h⟩ := bindS h
      refine W.seqOps (Bw 8 (RunR.cons (Tw (avail_Place_ok hx29) tab_nil) (Kw 19 [] (.tup [.pv (T_api_Till.pv x29.1), Vb x29.2.1, Vi x29.2.2]) Hw) Aw)) ?_
      obtain ⟨c30, hc30, h⟩ := bindS h
      obtain ⟨c31, hc31, h⟩ := bindS h
      obtain ⟨c32, hc32, h⟩ := bindS h
      obtain ⟨c33, hc33, h⟩ := bindS h
      refine W.seqOps (Bw 2 (RunR.dyn (Nw (x29.2.2 == 0) c30 hc30) (RunR.puts 2 [(156, Vb (c30 && x29.2.1)), (155, (Bf c30 (Vb x29.2.1)))] (by cases c30 <;> kernel_rfl) (RunR.dyn (Nw (c30 && x29.2.1) c31 hc31) (RunR.puts 2 [(159, (Bf c31 (Vl T_api_Hold.pv x29.1.f_Holds))), (158, (Bf c31 (.ptr (.loc 25 0) 3)))] (by cases c31 <;> kernel_rfl) (RunR.dyn (Step.gdG c31 (by kernel_rfl) (by
         cases c31
         ·exact .inl ⟨by kernel_rfl, by kernel_rfl⟩
         ·exact .inr ⟨by kernel_rfl, by kernel_rfl, Lw T_api_Hold.pv x29.1.f_Holds⟩)) (RunR.puts 2 [(162, (Bf c31 (Vl T_api_Hold.pv x5.f_Holds))), (161, (Bf c31 (.ptr (.loc 4 0) 3)))] (by cases c31 <;> kernel_rfl) (RunR.dyn (Step.gdG c31 (by kernel_rfl) (by
         cases c31
         ·exact .inl ⟨by kernel_rfl, by kernel_rfl⟩
         ·exact .inr ⟨by kernel_rfl, by kernel_rfl, Lw T_api_Hold.pv x5.f_Holds⟩)) (RunR.puts 3 [(166, Vb (c31 && ((x29.1.f_Holds.length : Int) == (IntKind.wrap .i64 ((x5.f_Holds.length : Int) + 1))))), (165, (Bf c31 (Vb ((x29.1.f_Holds.length : Int) == (IntKind.wrap .i64 ((x5.f_Holds.length : Int) + 1)))))), (164, (Bf c31 (Vi (IntKind.wrap .i64 ((x5.f_Holds.length : Int) + 1)))))] (by cases c31 <;> kernel_rfl) (RunR.dyn (Nw (c31 && ((x29.1.f_Holds.length : Int) == (IntKind.wrap .i64 ((x5.f_Holds.length : Int) + 1)))) c32 hc32) (RunR.puts 3 [(170, Vb (c32 || (x29.2.2 == 26))), (169, (Bf (!c32) (Vb (x29.2.2 == 26)))), (168, (Bf (!c32) (Vi x29.2.2)))] (by cases c32 <;> kernel_rfl) (RunR.dyn (Nw (c32 || (x29.2.2 == 26)) c33 hc33) (RunR.puts 3 [(174, Vb (c33 || (x29.2.2 == 6))), (173, (Bf (!c33) (Vb (x29.2.2 == 6)))), (172, (Bf (!c33) (Vi x29.2.2)))] (by cases c33 <;> kernel_rfl) Aw))))))))))))) ?_
      refine W.keep rfl ?_
      cases h
      exact W.ret Fw
  ·subst hp
   exact Option.some.inj h
end Go.Av.G
end
