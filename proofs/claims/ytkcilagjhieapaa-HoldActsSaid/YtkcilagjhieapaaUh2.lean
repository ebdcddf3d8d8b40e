/- What functions of the program compute, in plain words, and that they do: printed by a program of ours. -/
import Derived.Test.YtkcilagjhieapaaUh1
set_option linter.unusedVariables false
set_option linter.unusedSimpArgs false
set_option maxRecDepth 100000
set_option maxHeartbeats 8000000
namespace Go.Av.G
open Go Go.Av Go.Proofs
def pcashbookref25_Releaser0 : List GOp := [⟨(some 4), none, .mov .nils⟩, ⟨(some 5), none, .mov (.cst (.int .i64 0))⟩]
def pcashbookref25_Releaser1 : List GOp := [⟨(some 8), none, .mov (.tmp 0)⟩, ⟨(some 9), none, .mov (.tmp 1)⟩, ⟨(some 10), none, .call 0 0 (.cst (.fn 86)) [(.tmp 8), (.tmp 9)] [] []⟩, ⟨(some 6), none, .mov (.tmp 10)⟩]
def pcashbookref25_Releaser2 : List GOp := [⟨(some 11), none, .mov (.tmp 6)⟩, ⟨(some 12), none, .bin false .lss (.tmp 11) (.cst (.int .i64 0))⟩]
def pcashbookref25_Releaser3 : List GOp := [⟨(some 4), none, .mov .nils⟩, ⟨(some 5), none, .mov (.cst (.int .i64 8))⟩]
def pcashbookref25_Releaser4 : List GOp := [⟨(some 13), none, .mov (.tmp 0)⟩, ⟨(some 14), none, .mov (.tmp 6)⟩, ⟨(some 15), none, .idx 9 (.tmp 13) (.tmp 14)⟩, ⟨(some 16), none, .load true 9 (.tmp 15)⟩, ⟨(some 7), none, .alloc [.pv (.int .i64 0), .pv (.int .i64 0), .pv (.int .i64 0), .pv (.int .i64 0), .pv (.int .i64 0), .pv (.int .i32 0), .pv (.int .i32 0), .pv (.int .i64 0), .pv (.bool false)]⟩, ⟨none, none, .store 9 (.tmp 7) (.tmp 16)⟩]
def pcashbookref25_Releaser5 : List GOp := [⟨(some 17), none, .fld 8 (.tmp 7)⟩, ⟨(some 18), none, .load false 1 (.tmp 17)⟩]
def pcashbookref25_Releaser6 : List GOp := [⟨(some 4), none, .mov .nils⟩, ⟨(some 5), none, .mov (.cst (.int .i64 23))⟩]
def pcashbookref25_Releaser7 : List GOp := [⟨(some 19), none, .fld 8 (.tmp 7)⟩, ⟨none, none, .store 1 (.tmp 19) (.cst (.bool true))⟩]
def pcashbookref25_Releaser8 : List GOp := [⟨(some 20), none, .mov (.tmp 0)⟩, ⟨(some 21), none, .mov (.tmp 6)⟩, ⟨(some 22), none, .load true 9 (.tmp 7)⟩, ⟨(some 23), none, .call 0 0 (.cst (.fn 88)) [(.tmp 20), (.tmp 21), (.tmp 22)] [] []⟩, ⟨(some 4), none, .mov (.tmp 23)⟩, ⟨(some 5), none, .mov (.cst (.int .i64 0))⟩]
def pcashbookref25_Releaseb : AC := (.seq (.ops pcashbookref25_Releaser0) (.seq (.ops pcashbookref25_Releaser1) (.seq (.seq (.ops pcashbookref25_Releaser2) (.cond (.tmp 12) (.seq (.ops pcashbookref25_Releaser3) (.keep [] [(4, true), (5, false)] [] [.loc 7 0] [] .ret)) .skip)) (.seq (.ops pcashbookref25_Releaser4) (.seq (.seq (.ops pcashbookref25_Releaser5) (.cond (.tmp 18) (.seq (.ops pcashbookref25_Releaser6) (.keep [] [(4, true), (5, false)] [] [.loc 7 0] [] .ret)) .skip)) (.seq (.ops pcashbookref25_Releaser7) (.seq (.ops pcashbookref25_Releaser8) (.keep [] [(4, true), (5, false)] [] [.loc 7 0] [] .ret))))))))
def pcashbookref25_Release : Fd := ⟨2, [.tmp 4, .tmp 5], [], pcashbookref25_Releaseb⟩
theorem pcashbookref25_Release_ag : agreeF Try.prog Try.f52 pcashbookref25_Release = true := by kernel_rfl
theorem cashbookref25_Release_ok {l1 : List T_api_Hold} {id2 : Int} {r : (List T_api_Hold) × Int} (h : cashbookref25_Release l1 id2 = some r) : Contract Try.prog 52 [.pv (.slice (List.map T_api_Hold.pv l1)), .pv (.int .i64 id2)] [] ⟨.tup [.pv (.slice (List.map T_api_Hold.pv r.1)), .pv (.int .i64 r.2)], [], []⟩ := by
  refine contract_fin hm Try.func52 pcashbookref25_Release_ag (by kernel_rfl) ?_
  unfold cashbookref25_Release at h
  refine W.seqOps (RunR.all (by kernel_rfl)) ?_
  replace h := bindS h
  obtain ⟨x3, hx3, h⟩ := h
  refine W.seqOps (RunR.stat 2 (by kernel_rfl) (RunR.cons (tab_cons (on := true) (fun _ => cashbookref25_find_ok hx3) tab_nil) (Step.call0 (g := 86) (caps := []) (v := .pv (.int .i64 x3)) (by kernel_rfl) (by kernel_rfl) (by kernel_rfl) (tab_hit (by kernel_rfl)) (by kernel_rfl)) (RunR.all (by kernel_rfl)))) ?_
  refine W.assoc ?_
  refine W.seqOps (RunR.all (by kernel_rfl)) ?_
  refine W.seqCond (t := decide (x3 < 0)) (by kernel_rfl) h (fun hc h' => ?_) (fun hc h' => ?_)
  · replace h := h'
    refine W.assoc ?_
    refine W.seqOps (RunR.all (by kernel_rfl)) ?_
    refine W.seqKeep rfl ?_
    cases h
    exact W.seqRet ((fin_ret (by kernel_rfl)))
  · replace h := h'
    refine W.seqSkip ?_
    replace h := bindS h
    obtain ⟨x4, hx4, h⟩ := h
    refine W.seqOps (RunR.stat 2 (by kernel_rfl) (RunR.dyn (Step.idxT (f := T_api_Hold.pv) (l := l1) (n := x3) (e := x4) (k := .i64) (by kernel_rfl) (by kernel_rfl) hx4 (by kernel_rfl)) (RunR.all (by kernel_rfl)))) ?_
    refine W.assoc ?_
    refine W.seqOps (RunR.all (by kernel_rfl)) ?_
    refine W.seqCond (t := x4.f_Done) (by kernel_rfl) h (fun hc h' => ?_) (fun hc h' => ?_)
    · replace h := h'
      refine W.assoc ?_
      refine W.seqOps (RunR.all (by kernel_rfl)) ?_
      refine W.seqKeep rfl ?_
      cases h
      exact W.seqRet ((fin_ret (by kernel_rfl)))
    · replace h := h'
      refine W.seqSkip ?_
      refine W.seqOps (RunR.all (by kernel_rfl)) ?_
      replace h := bindS h
      obtain ⟨x5, hx5, h⟩ := h
      refine W.seqOps (RunR.stat 3 (by kernel_rfl) (RunR.cons (tab_cons (on := true) (fun _ => cashbookref25_with_ok hx5) tab_nil) (Step.call0 (g := 88) (caps := []) (v := .pv (.slice (List.map T_api_Hold.pv x5))) (by kernel_rfl) (by kernel_rfl) (by kernel_rfl) (tab_hit (by kernel_rfl)) (by kernel_rfl)) (RunR.all (by kernel_rfl)))) ?_
      refine W.keep rfl ?_
      cases h
      exact W.ret ((fin_ret (by kernel_rfl)))
def pcashbookref25_Samer0 : List GOp := [⟨(some 4), none, .mov (.cst (.bool false))⟩]
def pcashbookref25_Samer1 : List GOp := [⟨(some 6), none, .mov (.tmp 0)⟩, ⟨(some 7), none, .len false (.tmp 6)⟩, ⟨(some 8), none, .mov (.tmp 1)⟩, ⟨(some 9), none, .len false (.tmp 8)⟩, ⟨(some 10), none, .bin false .neq (.tmp 7) (.tmp 9)⟩]
def pcashbookref25_Samer2 : List GOp := [⟨(some 4), none, .mov (.cst (.bool false))⟩]
def pcashbookref25_Samer3 : List GOp := [⟨(some 5), none, .mov (.cst (.int .i64 0))⟩]
def pcashbookref25_Samer4 : List GOp := [⟨(some 11), none, .mov (.tmp 5)⟩, ⟨(some 12), none, .mov (.tmp 0)⟩, ⟨(some 13), none, .len false (.tmp 12)⟩, ⟨(some 14), none, .bin false .lss (.tmp 11) (.tmp 13)⟩]
def pcashbookref25_Samer5 : List GOp := [⟨(some 17), none, .mov (.tmp 0)⟩, ⟨(some 18), none, .mov (.tmp 5)⟩, ⟨(some 19), none, .idx 9 (.tmp 17) (.tmp 18)⟩, ⟨(some 20), none, .load true 9 (.tmp 19)⟩, ⟨(some 21), none, .mov (.tmp 1)⟩, ⟨(some 22), none, .mov (.tmp 5)⟩, ⟨(some 23), none, .idx 9 (.tmp 21) (.tmp 22)⟩, ⟨(some 24), none, .load true 9 (.tmp 23)⟩, ⟨(some 25), none, .eqs true [.i, .i, .i, .i, .i, .i, .i, .i, .b] (.tmp 20) (.tmp 24)⟩]
def pcashbookref25_Samer6 : List GOp := [⟨(some 4), none, .mov (.cst (.bool false))⟩]
def pcashbookref25_Samer7 : List GOp := [⟨(some 15), none, .mov (.tmp 5)⟩, ⟨(some 16), none, .bin false .add (.tmp 15) (.cst (.int .i64 1))⟩, ⟨(some 5), none, .mov (.tmp 16)⟩]
def pcashbookref25_Samel8 : AC := (.keep [] [(0, false), (1, false), (5, false)] [] [] [] (.seq (.seq (.ops pcashbookref25_Samer4) (.cond (.tmp 14) .skip (.exit 0))) (.seq (.pass 1 (.seq (.draw [] pcashbookref25_Samer5) (.cond (.tmp 25) (.seq (.ops pcashbookref25_Samer6) (.keep [] [(4, false)] [] [] [] .ret)) .skip))) (.ops pcashbookref25_Samer7))))
def pcashbookref25_Samer9 : List GOp := [⟨(some 4), none, .mov (.cst (.bool true))⟩]
def pcashbookref25_Sameb : AC := (.seq (.ops pcashbookref25_Samer0) (.seq (.seq (.ops pcashbookref25_Samer1) (.cond (.tmp 10) (.seq (.ops pcashbookref25_Samer2) (.keep [] [(4, false)] [] [] [] .ret)) .skip)) (.seq (.seq (.ops pcashbookref25_Samer3) (.block 0 (.loop [0, 1, 5] [] pcashbookref25_Samel8))) (.seq (.keep [] [] [] [] [] (.ops pcashbookref25_Samer9)) (.keep [] [(4, false)] [] [] [] .ret)))))
def pcashbookref25_Same : Fd := ⟨2, [.tmp 4], [], pcashbookref25_Sameb⟩
theorem pcashbookref25_Same_ag : agreeF Try.prog Try.f53 pcashbookref25_Same = true := by kernel_rfl
theorem cashbookref25_Same_ok {a1 : List T_api_Hold} {b2 : List T_api_Hold} {r : Bool} (h : cashbookref25_Same a1 b2 = some r) : Contract Try.prog 53 [.pv (.slice (List.map T_api_Hold.pv a1)), .pv (.slice (List.map T_api_Hold.pv b2))] [] ⟨.pv (.bool r), [], []⟩ := by
  refine contract_fin hm Try.func53 pcashbookref25_Same_ag (by kernel_rfl) ?_
  unfold cashbookref25_Same at h
  refine W.seqOps (RunR.all (by kernel_rfl)) ?_
  refine W.assoc ?_
  refine W.seqOps (RunR.stat 1 (by kernel_rfl) (RunR.dyn (Step.lenT (f := T_api_Hold.pv) (l := a1) (by kernel_rfl)) (RunR.stat 1 (by kernel_rfl) (RunR.dyn (Step.lenT (f := T_api_Hold.pv) (l := b2) (by kernel_rfl)) (RunR.all (by kernel_rfl)))))) ?_
  refine W.seqCond (t := ((a1.length : Int) != (b2.length : Int))) (by kernel_rfl) h (fun hc h' => ?_) (fun hc h' => ?_)
  · replace h := h'
    refine W.assoc ?_
    refine W.seqOps (RunR.all (by kernel_rfl)) ?_
    refine W.seqKeep rfl ?_
    cases h
    exact W.seqRet ((fin_ret (by kernel_rfl)))
  · replace h := h'
    refine W.seqSkip ?_
    refine W.assoc ?_
    refine W.seqOps (RunR.all (by kernel_rfl)) ?_
    replace h := bindS h
    obtain ⟨j3, hj3, h⟩ := h
    refine W.joinOut (j := j3) (o := r) (fun p σ => σ.tidy [] [] [] [] [] = ⟨[], []⟩) ?_ (fun p σj3 hp hsj3 => ?_) (fun p hp => ?_)
    · refine W.blockLoopO (fun q σ => ((σ.forget [0, 1, 5]).killAll []).tidy [] [(0, false), (1, false), (5, false)] [] [] [] = ⟨[(0, .pv (.slice (List.map T_api_Hold.pv a1))), (1, .pv (.slice (List.map T_api_Hold.pv b2))), (5, .pv (.int .i64 q))], []⟩) hj3 ?_ ?_
      · show _ = _
        kernel_rfl
      · intro i4 σj3 oj3 hJj3 h
        refine W.keep hJj3 ?_
        refine W.assoc ?_
        refine W.seqOps (RunR.stat 2 (by kernel_rfl) (RunR.dyn (Step.lenT (f := T_api_Hold.pv) (l := a1) (by kernel_rfl)) (RunR.all (by kernel_rfl)))) ?_
        refine W.seqCond (t := decide (i4 < (a1.length : Int))) (by kernel_rfl) h (fun hc h' => ?_) (fun hc h' => ?_)
        · replace h := h'
          refine W.seqSkip ?_
          refine W.seqPass ?_
          refine W.assoc ?_
          replace h := bindS h
          obtain ⟨x5, hx5, h⟩ := h
          replace h := bindS h
          obtain ⟨x6, hx6, h⟩ := h
          refine W.seqDraw tab_nil (Run.stat 2 (by kernel_rfl) (Run.dyn (Step.idxT (f := T_api_Hold.pv) (l := a1) (n := i4) (e := x5) (k := .i64) (by kernel_rfl) (by kernel_rfl) hx5 (by kernel_rfl)) (Run.stat 3 (by kernel_rfl) (Run.dyn (Step.idxT (f := T_api_Hold.pv) (l := b2) (n := i4) (e := x6) (k := .i64) (by kernel_rfl) (by kernel_rfl) hx6 (by kernel_rfl)) (Run.all (by kernel_rfl)))))) ?_
          refine W.seqCond (t := !(T_api_Hold.same x5 x6)) (by kernel_rfl) h (fun hc h' => ?_) (fun hc h' => ?_)
          · replace h := h'
            refine W.assoc ?_
            refine W.seqOps (RunR.all (by kernel_rfl)) ?_
            refine W.seqKeep rfl ?_
            cases h
            exact W.seqRet ((outw_out ret_ne (bout_o ret_ne ret_ne' (fun e => by subst e; exact (fin_ret (by kernel_rfl))))))
          · replace h := h'
            refine W.seqSkip ?_
            refine W.ops (RunR.all (by kernel_rfl)) ?_
            cases h
            exact (outw_in (by (show _ = _); kernel_rfl))
        · replace h := h'
          cases h
          exact W.seqExit ((outw_out exit_ne (bout_x (by (show _ = _); kernel_rfl))))
    · subst hp
      obtain ⟨⟩ := p
      refine W.seqKeep hsj3 ?_
      refine W.seqOps (RunR.all (by kernel_rfl)) ?_
      refine W.keep rfl ?_
      cases h
      exact W.ret ((fin_ret (by kernel_rfl)))
    · subst hp
      exact Option.some.inj h
def pcashbooklaw25_HoldActsr0 : List GOp := [⟨(some 4), none, .box (.tmp 1)⟩, ⟨(some 5), none, .box (.tmp 2)⟩, ⟨(some 6), none, .mov (.cst (.bool false))⟩]
def pcashbooklaw25_HoldActsr1 : List GOp := [⟨(some 23), none, .mov (.tmp 0)⟩, ⟨(some 24), none, .len false (.tmp 23)⟩, ⟨(some 25), none, .bin false .gtr (.tmp 24) (.cst (.int .i64 300))⟩]
def pcashbooklaw25_HoldActsr2 : List GOp := [⟨(some 26), none, .call 0 0 (.cst (.fn 35)) [] [] []⟩, ⟨(some 6), none, .mov (.tmp 26)⟩]
def pcashbooklaw25_HoldActsr3 : List GOp := [⟨(some 28), none, .mov (.tmp 0)⟩, ⟨(some 29), none, .fld 5 (.tmp 4)⟩, ⟨(some 30), none, .load true 9 (.tmp 29)⟩, ⟨(some 31), none, .call 0 0 (.cst (.fn 47)) [(.tmp 28), (.tmp 30)] [] []⟩, ⟨(some 27), none, .mov (.tmp 31)⟩, ⟨(some 32), none, .ext 0 (.tmp 27)⟩, ⟨(some 33), none, .ext 1 (.tmp 27)⟩, ⟨(some 7), none, .mov (.tmp 32)⟩, ⟨(some 8), none, .mov (.tmp 33)⟩]
def pcashbooklaw25_HoldActsr4 : List GOp := [⟨(some 35), none, .mov (.tmp 0)⟩, ⟨(some 36), none, .fld 0 (.tmp 5)⟩, ⟨(some 37), none, .load false 1 (.tmp 36)⟩, ⟨(some 38), none, .fld 1 (.tmp 5)⟩, ⟨(some 39), none, .load true 2 (.tmp 38)⟩, ⟨(some 40), none, .fld 3 (.tmp 5)⟩, ⟨(some 41), none, .load false 1 (.tmp 40)⟩, ⟨(some 42), none, .fld 4 (.tmp 5)⟩, ⟨(some 43), none, .load false 1 (.tmp 42)⟩, ⟨(some 44), none, .call 0 0 (.cst (.fn 48)) [(.tmp 35), (.tmp 37), (.tmp 39), (.tmp 41), (.tmp 43)] [] []⟩, ⟨(some 34), none, .mov (.tmp 44)⟩, ⟨(some 45), none, .ext 0 (.tmp 34)⟩, ⟨(some 46), none, .ext 1 (.tmp 34)⟩, ⟨(some 9), none, .mov (.tmp 45)⟩, ⟨(some 10), none, .mov (.tmp 46)⟩]
def pcashbooklaw25_HoldActsr5 : List GOp := [⟨(some 48), none, .mov (.tmp 0)⟩, ⟨(some 49), none, .fld 0 (.tmp 5)⟩, ⟨(some 50), none, .load false 1 (.tmp 49)⟩, ⟨(some 51), none, .call 0 0 (.cst (.fn 49)) [(.tmp 48), (.tmp 50)] [] []⟩, ⟨(some 47), none, .mov (.tmp 51)⟩, ⟨(some 52), none, .ext 0 (.tmp 47)⟩, ⟨(some 53), none, .ext 1 (.tmp 47)⟩, ⟨(some 11), none, .mov (.tmp 52)⟩, ⟨(some 12), none, .mov (.tmp 53)⟩]
def pcashbooklaw25_HoldActsr6 : List GOp := [⟨(some 54), none, .mov (.tmp 0)⟩, ⟨(some 55), none, .call 0 0 (.cst (.fn 39)) [(.tmp 54)] [] []⟩, ⟨(some 13), none, .mov (.tmp 55)⟩]
def pcashbooklaw25_HoldActsr7 : List GOp := [⟨(some 56), none, .mov (.tmp 13)⟩, ⟨(some 57), none, .bin false .neq (.tmp 56) (.cst (.int .i64 0))⟩]
def pcashbooklaw25_HoldActsr8 : List GOp := [⟨(some 58), none, .call 0 0 (.cst (.fn 35)) [] [] []⟩, ⟨(some 59), none, .mov (.tmp 58)⟩, ⟨(some 60), (some (59, true)), .mov (.tmp 8)⟩, ⟨(some 61), (some (59, true)), .mov (.tmp 13)⟩, ⟨(some 62), (some (59, true)), .bin false .eql (.tmp 60) (.tmp 61)⟩, ⟨(some 63), none, .pick (.tmp 59) (.tmp 62) (.cst (.bool false))⟩, ⟨(some 64), none, .mov (.tmp 63)⟩, ⟨(some 65), (some (64, true)), .mov (.tmp 10)⟩, ⟨(some 66), (some (64, true)), .mov (.tmp 13)⟩, ⟨(some 67), (some (64, true)), .bin false .eql (.tmp 65) (.tmp 66)⟩, ⟨(some 68), none, .pick (.tmp 64) (.tmp 67) (.cst (.bool false))⟩, ⟨(some 69), none, .mov (.tmp 68)⟩, ⟨(some 70), (some (69, true)), .mov (.tmp 12)⟩, ⟨(some 71), (some (69, true)), .mov (.tmp 13)⟩, ⟨(some 72), (some (69, true)), .bin false .eql (.tmp 70) (.tmp 71)⟩, ⟨(some 73), none, .pick (.tmp 69) (.tmp 72) (.cst (.bool false))⟩, ⟨(some 74), none, .mov (.tmp 73)⟩, ⟨(some 75), (some (74, true)), .mov (.tmp 7)⟩, ⟨(some 76), (some (74, true)), .len false (.tmp 75)⟩, ⟨(some 77), (some (74, true)), .mov (.tmp 9)⟩, ⟨(some 78), (some (74, true)), .len false (.tmp 77)⟩, ⟨(some 79), (some (74, true)), .bin false .add (.tmp 76) (.tmp 78)⟩, ⟨(some 80), (some (74, true)), .mov (.tmp 11)⟩, ⟨(some 81), (some (74, true)), .len false (.tmp 80)⟩, ⟨(some 82), (some (74, true)), .bin false .add (.tmp 79) (.tmp 81)⟩, ⟨(some 83), (some (74, true)), .bin false .eql (.tmp 82) (.cst (.int .i64 0))⟩, ⟨(some 84), none, .pick (.tmp 74) (.tmp 83) (.cst (.bool false))⟩, ⟨(some 6), none, .mov (.tmp 84)⟩]
def pcashbooklaw25_HoldActsr9 : List GOp := [⟨(some 86), none, .mov (.tmp 0)⟩, ⟨(some 87), none, .fld 5 (.tmp 4)⟩, ⟨(some 88), none, .load true 9 (.tmp 87)⟩, ⟨(some 89), none, .call 0 0 (.cst (.fn 50)) [(.tmp 86), (.tmp 88)] [] []⟩, ⟨(some 85), none, .mov (.tmp 89)⟩, ⟨(some 90), none, .ext 0 (.tmp 85)⟩, ⟨(some 91), none, .ext 1 (.tmp 85)⟩, ⟨(some 14), none, .mov (.tmp 90)⟩, ⟨(some 15), none, .mov (.tmp 91)⟩]
def pcashbooklaw25_HoldActsr10 : List GOp := [⟨(some 93), none, .mov (.tmp 0)⟩, ⟨(some 94), none, .fld 0 (.tmp 5)⟩, ⟨(some 95), none, .load false 1 (.tmp 94)⟩, ⟨(some 96), none, .fld 1 (.tmp 5)⟩, ⟨(some 97), none, .load true 2 (.tmp 96)⟩, ⟨(some 98), none, .fld 3 (.tmp 5)⟩, ⟨(some 99), none, .load false 1 (.tmp 98)⟩, ⟨(some 100), none, .fld 4 (.tmp 5)⟩, ⟨(some 101), none, .load false 1 (.tmp 100)⟩, ⟨(some 102), none, .call 0 0 (.cst (.fn 51)) [(.tmp 93), (.tmp 95), (.tmp 97), (.tmp 99), (.tmp 101)] [] []⟩, ⟨(some 92), none, .mov (.tmp 102)⟩, ⟨(some 103), none, .ext 0 (.tmp 92)⟩, ⟨(some 104), none, .ext 1 (.tmp 92)⟩, ⟨(some 16), none, .mov (.tmp 103)⟩, ⟨(some 17), none, .mov (.tmp 104)⟩]
def pcashbooklaw25_HoldActsr11 : List GOp := [⟨(some 106), none, .mov (.tmp 0)⟩, ⟨(some 107), none, .fld 0 (.tmp 5)⟩, ⟨(some 108), none, .load false 1 (.tmp 107)⟩, ⟨(some 109), none, .call 0 0 (.cst (.fn 52)) [(.tmp 106), (.tmp 108)] [] []⟩, ⟨(some 105), none, .mov (.tmp 109)⟩, ⟨(some 110), none, .ext 0 (.tmp 105)⟩, ⟨(some 111), none, .ext 1 (.tmp 105)⟩, ⟨(some 18), none, .mov (.tmp 110)⟩, ⟨(some 19), none, .mov (.tmp 111)⟩]
def pcashbooklaw25_HoldActsr12 : List GOp := [⟨(some 112), none, .mov (.tmp 7)⟩, ⟨(some 113), none, .mov (.tmp 14)⟩, ⟨(some 114), none, .call 0 0 (.cst (.fn 53)) [(.tmp 112), (.tmp 113)] [] []⟩, ⟨(some 20), none, .mov (.tmp 114)⟩]
def pcashbooklaw25_HoldActsr13 : List GOp := [⟨(some 115), none, .mov (.tmp 9)⟩, ⟨(some 116), none, .mov (.tmp 16)⟩, ⟨(some 117), none, .call 0 0 (.cst (.fn 53)) [(.tmp 115), (.tmp 116)] [] []⟩, ⟨(some 21), none, .mov (.tmp 117)⟩]
def pcashbooklaw25_HoldActsr14 : List GOp := [⟨(some 118), none, .mov (.tmp 11)⟩, ⟨(some 119), none, .mov (.tmp 18)⟩, ⟨(some 120), none, .call 0 0 (.cst (.fn 53)) [(.tmp 118), (.tmp 119)] [] []⟩, ⟨(some 22), none, .mov (.tmp 120)⟩]
def pcashbooklaw25_HoldActsr15 : List GOp := [⟨(some 121), none, .call 0 0 (.cst (.fn 35)) [] [] []⟩, ⟨(some 122), none, .mov (.tmp 121)⟩, ⟨(some 123), (some (122, true)), .mov (.tmp 20)⟩, ⟨(some 124), none, .pick (.tmp 122) (.tmp 123) (.cst (.bool false))⟩, ⟨(some 125), none, .mov (.tmp 124)⟩, ⟨(some 126), (some (125, true)), .mov (.tmp 21)⟩, ⟨(some 127), none, .pick (.tmp 125) (.tmp 126) (.cst (.bool false))⟩, ⟨(some 128), none, .mov (.tmp 127)⟩, ⟨(some 129), (some (128, true)), .mov (.tmp 22)⟩, ⟨(some 130), none, .pick (.tmp 128) (.tmp 129) (.cst (.bool false))⟩, ⟨(some 131), none, .mov (.tmp 130)⟩, ⟨(some 132), (some (131, true)), .mov (.tmp 8)⟩, ⟨(some 133), (some (131, true)), .mov (.tmp 15)⟩, ⟨(some 134), (some (131, true)), .bin false .eql (.tmp 132) (.tmp 133)⟩, ⟨(some 135), none, .pick (.tmp 131) (.tmp 134) (.cst (.bool false))⟩, ⟨(some 136), none, .mov (.tmp 135)⟩, ⟨(some 137), (some (136, true)), .mov (.tmp 10)⟩, ⟨(some 138), (some (136, true)), .mov (.tmp 17)⟩, ⟨(some 139), (some (136, true)), .bin false .eql (.tmp 137) (.tmp 138)⟩, ⟨(some 140), none, .pick (.tmp 136) (.tmp 139) (.cst (.bool false))⟩, ⟨(some 141), none, .mov (.tmp 140)⟩, ⟨(some 142), (some (141, true)), .mov (.tmp 12)⟩, ⟨(some 143), (some (141, true)), .mov (.tmp 19)⟩, ⟨(some 144), (some (141, true)), .bin false .eql (.tmp 142) (.tmp 143)⟩, ⟨(some 145), none, .pick (.tmp 141) (.tmp 144) (.cst (.bool false))⟩, ⟨(some 6), none, .mov (.tmp 145)⟩]
def pcashbooklaw25_HoldActsb : AC := (.seq (.ops pcashbooklaw25_HoldActsr0) (.seq (.seq (.ops pcashbooklaw25_HoldActsr1) (.cond (.tmp 25) (.seq (.ops pcashbooklaw25_HoldActsr2) (.keep [] [(6, false)] [] [.loc 4 0, .loc 5 0] [] .ret)) .skip)) (.seq (.ops pcashbooklaw25_HoldActsr3) (.seq (.ops pcashbooklaw25_HoldActsr4) (.seq (.ops pcashbooklaw25_HoldActsr5) (.seq (.ops pcashbooklaw25_HoldActsr6) (.seq (.seq (.ops pcashbooklaw25_HoldActsr7) (.cond (.tmp 57) (.seq (.ops pcashbooklaw25_HoldActsr8) (.keep [] [(6, false)] [] [.loc 4 0, .loc 5 0] [] .ret)) .skip)) (.seq (.ops pcashbooklaw25_HoldActsr9) (.seq (.ops pcashbooklaw25_HoldActsr10) (.seq (.ops pcashbooklaw25_HoldActsr11) (.seq (.ops pcashbooklaw25_HoldActsr12) (.seq (.ops pcashbooklaw25_HoldActsr13) (.seq (.ops pcashbooklaw25_HoldActsr14) (.seq (.ops pcashbooklaw25_HoldActsr15) (.keep [] [(6, false)] [] [.loc 4 0, .loc 5 0] [] .ret)))))))))))))))
def pcashbooklaw25_HoldActs : Fd := ⟨3, [.tmp 6], [], pcashbooklaw25_HoldActsb⟩
theorem pcashbooklaw25_HoldActs_ag : agreeF Try.prog Try.f8 pcashbooklaw25_HoldActs = true := by kernel_rfl
theorem cashbooklaw25_HoldActs_ok {l1 : List T_api_Hold} {x2 : T_cashbooklaw25_Ask} {t3 : T_cashbooklaw25_Take} {r : Bool} (h : cashbooklaw25_HoldActs l1 x2 t3 = some r) : Contract Try.prog 8 [.pv (.slice (List.map T_api_Hold.pv l1)), .pv (T_cashbooklaw25_Ask.pv x2), .pv (T_cashbooklaw25_Take.pv t3)] [] ⟨.pv (.bool r), [], []⟩ := by
  refine contract_fin hm Try.func8 pcashbooklaw25_HoldActs_ag (by kernel_rfl) ?_
  unfold cashbooklaw25_HoldActs at h
  refine W.seqOps (RunR.all (by kernel_rfl)) ?_
  refine W.assoc ?_
  refine W.seqOps (RunR.stat 1 (by kernel_rfl) (RunR.dyn (Step.lenT (f := T_api_Hold.pv) (l := l1) (by kernel_rfl)) (RunR.all (by kernel_rfl)))) ?_
  refine W.seqCond (t := decide ((l1.length : Int) > 300)) (by kernel_rfl) h (fun hc h' => ?_) (fun hc h' => ?_)
  · replace h := h'
    refine W.assoc ?_
    replace h := bindS h
    obtain ⟨x4, hx4, h⟩ := h
    refine W.seqOps (RunR.cons (tab_cons (on := true) (fun _ => cashbooklaw25_alive_ok hx4) tab_nil) (Step.call0 (g := 35) (caps := []) (v := .pv (.bool x4)) (by kernel_rfl) (by kernel_rfl) (by kernel_rfl) (tab_hit (by kernel_rfl)) (by kernel_rfl)) (RunR.all (by kernel_rfl))) ?_
    refine W.seqKeep rfl ?_
    cases h
    exact W.seqRet ((fin_ret (by kernel_rfl)))
  · replace h := h'
    refine W.seqSkip ?_
    replace h := bindS h
    obtain ⟨x5, hx5, h⟩ := h
    refine W.seqOps (RunR.stat 3 (by kernel_rfl) (RunR.cons (tab_cons (on := true) (fun _ => hold_Add_ok hx5) tab_nil) (Step.call0 (g := 47) (caps := []) (v := .tup [.pv (.slice (List.map T_api_Hold.pv x5.1)), .pv (.int .i64 x5.2)]) (by kernel_rfl) (by kernel_rfl) (by kernel_rfl) (tab_hit (by kernel_rfl)) (by kernel_rfl)) (RunR.all (by kernel_rfl)))) ?_
    replace h := bindS h
    obtain ⟨x6, hx6, h⟩ := h
    refine W.seqOps (RunR.stat 9 (by kernel_rfl) (RunR.cons (tab_cons (on := true) (fun _ => hold_Capture_ok hx6) tab_nil) (Step.call0 (g := 48) (caps := []) (v := .tup [.pv (.slice (List.map T_api_Hold.pv x6.1)), .pv (.int .i64 x6.2)]) (by kernel_rfl) (by kernel_rfl) (by kernel_rfl) (tab_hit (by kernel_rfl)) (by kernel_rfl)) (RunR.all (by kernel_rfl)))) ?_
    replace h := bindS h
    obtain ⟨x7, hx7, h⟩ := h
    refine W.seqOps (RunR.stat 3 (by kernel_rfl) (RunR.cons (tab_cons (on := true) (fun _ => hold_Release_ok hx7) tab_nil) (Step.call0 (g := 49) (caps := []) (v := .tup [.pv (.slice (List.map T_api_Hold.pv x7.1)), .pv (.int .i64 x7.2)]) (by kernel_rfl) (by kernel_rfl) (by kernel_rfl) (tab_hit (by kernel_rfl)) (by kernel_rfl)) (RunR.all (by kernel_rfl)))) ?_
    replace h := bindS h
    obtain ⟨x8, hx8, h⟩ := h
    refine W.seqOps (RunR.stat 1 (by kernel_rfl) (RunR.cons (tab_cons (on := true) (fun _ => cashbookref25_Check_ok hx8) tab_nil) (Step.call0 (g := 39) (caps := []) (v := .pv (.int .i64 x8)) (by kernel_rfl) (by kernel_rfl) (by kernel_rfl) (tab_hit (by kernel_rfl)) (by kernel_rfl)) (RunR.all (by kernel_rfl)))) ?_
    refine W.assoc ?_
    refine W.seqOps (RunR.all (by kernel_rfl)) ?_
    refine W.seqCond (t := (x8 != 0)) (by kernel_rfl) h (fun hc h' => ?_) (fun hc h' => ?_)
    · replace h := h'
      refine W.assoc ?_
      replace h := bindS h
      obtain ⟨x9, hx9, h⟩ := h
      replace h := bindS h
      obtain ⟨c10, hc10, h⟩ := h
      replace h := bindS h
      obtain ⟨c11, hc11, h⟩ := h
      replace h := bindS h
      obtain ⟨c12, hc12, h⟩ := h
      refine W.seqOps (RunR.cons (tab_cons (on := true) (fun _ => cashbooklaw25_alive_ok hx9) tab_nil) (Step.call0 (g := 35) (caps := []) (v := .pv (.bool x9)) (by kernel_rfl) (by kernel_rfl) (by kernel_rfl) (tab_hit (by kernel_rfl)) (by kernel_rfl)) (RunR.stat 1 (by kernel_rfl) (RunR.puts 4 [(63, .pv (.bool (x9 && (x5.2 == x8)))), (62, (bif x9 then (.pv (.bool (x5.2 == x8))) else (.tup []))), (61, (bif x9 then (.pv (.int .i64 x8)) else (.tup []))), (60, (bif x9 then (.pv (.int .i64 x5.2)) else (.tup [])))] (by cases x9 <;> kernel_rfl) (RunR.dyn (Step.name (f := eBool) (e := (x9 && (x5.2 == x8))) (c := c10) (by kernel_rfl) hc10) (RunR.puts 4 [(68, .pv (.bool (c10 && (x6.2 == x8)))), (67, (bif c10 then (.pv (.bool (x6.2 == x8))) else (.tup []))), (66, (bif c10 then (.pv (.int .i64 x8)) else (.tup []))), (65, (bif c10 then (.pv (.int .i64 x6.2)) else (.tup [])))] (by cases c10 <;> kernel_rfl) (RunR.dyn (Step.name (f := eBool) (e := (c10 && (x6.2 == x8))) (c := c11) (by kernel_rfl) hc11) (RunR.puts 4 [(73, .pv (.bool (c11 && (x7.2 == x8)))), (72, (bif c11 then (.pv (.bool (x7.2 == x8))) else (.tup []))), (71, (bif c11 then (.pv (.int .i64 x8)) else (.tup []))), (70, (bif c11 then (.pv (.int .i64 x7.2)) else (.tup [])))] (by cases c11 <;> kernel_rfl) (RunR.dyn (Step.name (f := eBool) (e := (c11 && (x7.2 == x8))) (c := c12) (by kernel_rfl) hc12) (RunR.puts 1 [(75, (bif c12 then (.pv (.slice (List.map T_api_Hold.pv x5.1))) else (.tup [])))] (by cases c12 <;> kernel_rfl) (RunR.dyn (Step.gdG c12 (by kernel_rfl) (by
            cases c12
            · exact .inl ⟨by kernel_rfl, by kernel_rfl⟩
            · exact .inr ⟨by kernel_rfl, by kernel_rfl, Step.lenT (f := T_api_Hold.pv) (l := x5.1) (by kernel_rfl)⟩)) (RunR.puts 1 [(77, (bif c12 then (.pv (.slice (List.map T_api_Hold.pv x6.1))) else (.tup [])))] (by cases c12 <;> kernel_rfl) (RunR.dyn (Step.gdG c12 (by kernel_rfl) (by
            cases c12
            · exact .inl ⟨by kernel_rfl, by kernel_rfl⟩
            · exact .inr ⟨by kernel_rfl, by kernel_rfl, Step.lenT (f := T_api_Hold.pv) (l := x6.1) (by kernel_rfl)⟩)) (RunR.puts 2 [(80, (bif c12 then (.pv (.slice (List.map T_api_Hold.pv x7.1))) else (.tup []))), (79, (bif c12 then (.pv (.int .i64 (IntKind.wrap .i64 ((x5.1.length : Int) + (x6.1.length : Int))))) else (.tup [])))] (by cases c12 <;> kernel_rfl) (RunR.dyn (Step.gdG c12 (by kernel_rfl) (by
            cases c12
            · exact .inl ⟨by kernel_rfl, by kernel_rfl⟩
            · exact .inr ⟨by kernel_rfl, by kernel_rfl, Step.lenT (f := T_api_Hold.pv) (l := x7.1) (by kernel_rfl)⟩)) (RunR.puts 3 [(84, .pv (.bool (c12 && ((IntKind.wrap .i64 ((IntKind.wrap .i64 ((x5.1.length : Int) + (x6.1.length : Int))) + (x7.1.length : Int))) == 0)))), (83, (bif c12 then (.pv (.bool ((IntKind.wrap .i64 ((IntKind.wrap .i64 ((x5.1.length : Int) + (x6.1.length : Int))) + (x7.1.length : Int))) == 0))) else (.tup []))), (82, (bif c12 then (.pv (.int .i64 (IntKind.wrap .i64 ((IntKind.wrap .i64 ((x5.1.length : Int) + (x6.1.length : Int))) + (x7.1.length : Int))))) else (.tup [])))] (by cases c12 <;> kernel_rfl) (RunR.all (by kernel_rfl))))))))))))))))) ?_
      refine W.seqKeep rfl ?_
      cases h
      exact W.seqRet ((fin_ret (by kernel_rfl)))
    · replace h := h'
      refine W.seqSkip ?_
      replace h := bindS h
      obtain ⟨x13, hx13, h⟩ := h
      refine W.seqOps (RunR.stat 3 (by kernel_rfl) (RunR.cons (tab_cons (on := true) (fun _ => cashbookref25_Add_ok hx13) tab_nil) (Step.call0 (g := 50) (caps := []) (v := .tup [.pv (.slice (List.map T_api_Hold.pv x13.1)), .pv (.int .i64 x13.2)]) (by kernel_rfl) (by kernel_rfl) (by kernel_rfl) (tab_hit (by kernel_rfl)) (by kernel_rfl)) (RunR.all (by kernel_rfl)))) ?_
      replace h := bindS h
      obtain ⟨x14, hx14, h⟩ := h
      refine W.seqOps (RunR.stat 9 (by kernel_rfl) (RunR.cons (tab_cons (on := true) (fun _ => cashbookref25_Capture_ok hx14) tab_nil) (Step.call0 (g := 51) (caps := []) (v := .tup [.pv (.slice (List.map T_api_Hold.pv x14.1)), .pv (.int .i64 x14.2)]) (by kernel_rfl) (by kernel_rfl) (by kernel_rfl) (tab_hit (by kernel_rfl)) (by kernel_rfl)) (RunR.all (by kernel_rfl)))) ?_
      replace h := bindS h
      obtain ⟨x15, hx15, h⟩ := h
      refine W.seqOps (RunR.stat 3 (by kernel_rfl) (RunR.cons (tab_cons (on := true) (fun _ => cashbookref25_Release_ok hx15) tab_nil) (Step.call0 (g := 52) (caps := []) (v := .tup [.pv (.slice (List.map T_api_Hold.pv x15.1)), .pv (.int .i64 x15.2)]) (by kernel_rfl) (by kernel_rfl) (by kernel_rfl) (tab_hit (by kernel_rfl)) (by kernel_rfl)) (RunR.all (by kernel_rfl)))) ?_
      replace h := bindS h
      obtain ⟨x16, hx16, h⟩ := h
      refine W.seqOps (RunR.stat 2 (by kernel_rfl) (RunR.cons (tab_cons (on := true) (fun _ => cashbookref25_Same_ok hx16) tab_nil) (Step.call0 (g := 53) (caps := []) (v := .pv (.bool x16)) (by kernel_rfl) (by kernel_rfl) (by kernel_rfl) (tab_hit (by kernel_rfl)) (by kernel_rfl)) (RunR.all (by kernel_rfl)))) ?_
      replace h := bindS h
      obtain ⟨x17, hx17, h⟩ := h
      refine W.seqOps (RunR.stat 2 (by kernel_rfl) (RunR.cons (tab_cons (on := true) (fun _ => cashbookref25_Same_ok hx17) tab_nil) (Step.call0 (g := 53) (caps := []) (v := .pv (.bool x17)) (by kernel_rfl) (by kernel_rfl) (by kernel_rfl) (tab_hit (by kernel_rfl)) (by kernel_rfl)) (RunR.all (by kernel_rfl)))) ?_
      replace h := bindS h
      obtain ⟨x18, hx18, h⟩ := h
      refine W.seqOps (RunR.stat 2 (by kernel_rfl) (RunR.cons (tab_cons (on := true) (fun _ => cashbookref25_Same_ok hx18) tab_nil) (Step.call0 (g := 53) (caps := []) (v := .pv (.bool x18)) (by kernel_rfl) (by kernel_rfl) (by kernel_rfl) (tab_hit (by kernel_rfl)) (by kernel_rfl)) (RunR.all (by kernel_rfl)))) ?_
      replace h := bindS h
      obtain ⟨x19, hx19, h⟩ := h
      replace h := bindS h
      obtain ⟨c20, hc20, h⟩ := h
      replace h := bindS h
      obtain ⟨c21, hc21, h⟩ := h
      replace h := bindS h
      obtain ⟨c22, hc22, h⟩ := h
      replace h := bindS h
      obtain ⟨c23, hc23, h⟩ := h
      replace h := bindS h
      obtain ⟨c24, hc24, h⟩ := h
      refine W.seqOps (RunR.cons (tab_cons (on := true) (fun _ => cashbooklaw25_alive_ok hx19) tab_nil) (Step.call0 (g := 35) (caps := []) (v := .pv (.bool x19)) (by kernel_rfl) (by kernel_rfl) (by kernel_rfl) (tab_hit (by kernel_rfl)) (by kernel_rfl)) (RunR.stat 1 (by kernel_rfl) (RunR.puts 2 [(124, .pv (.bool (x19 && x16))), (123, (bif x19 then (.pv (.bool x16)) else (.tup [])))] (by cases x19 <;> kernel_rfl) (RunR.dyn (Step.name (f := eBool) (e := (x19 && x16)) (c := c20) (by kernel_rfl) hc20) (RunR.puts 2 [(127, .pv (.bool (c20 && x17))), (126, (bif c20 then (.pv (.bool x17)) else (.tup [])))] (by cases c20 <;> kernel_rfl) (RunR.dyn (Step.name (f := eBool) (e := (c20 && x17)) (c := c21) (by kernel_rfl) hc21) (RunR.puts 2 [(130, .pv (.bool (c21 && x18))), (129, (bif c21 then (.pv (.bool x18)) else (.tup [])))] (by cases c21 <;> kernel_rfl) (RunR.dyn (Step.name (f := eBool) (e := (c21 && x18)) (c := c22) (by kernel_rfl) hc22) (RunR.puts 4 [(135, .pv (.bool (c22 && (x5.2 == x13.2)))), (134, (bif c22 then (.pv (.bool (x5.2 == x13.2))) else (.tup []))), (133, (bif c22 then (.pv (.int .i64 x13.2)) else (.tup []))), (132, (bif c22 then (.pv (.int .i64 x5.2)) else (.tup [])))] (by cases c22 <;> kernel_rfl) (RunR.dyn (Step.name (f := eBool) (e := (c22 && (x5.2 == x13.2))) (c := c23) (by kernel_rfl) hc23) (RunR.puts 4 [(140, .pv (.bool (c23 && (x6.2 == x14.2)))), (139, (bif c23 then (.pv (.bool (x6.2 == x14.2))) else (.tup []))), (138, (bif c23 then (.pv (.int .i64 x14.2)) else (.tup []))), (137, (bif c23 then (.pv (.int .i64 x6.2)) else (.tup [])))] (by cases c23 <;> kernel_rfl) (RunR.dyn (Step.name (f := eBool) (e := (c23 && (x6.2 == x14.2))) (c := c24) (by kernel_rfl) hc24) (RunR.puts 4 [(145, .pv (.bool (c24 && (x7.2 == x15.2)))), (144, (bif c24 then (.pv (.bool (x7.2 == x15.2))) else (.tup []))), (143, (bif c24 then (.pv (.int .i64 x15.2)) else (.tup []))), (142, (bif c24 then (.pv (.int .i64 x7.2)) else (.tup [])))] (by cases c24 <;> kernel_rfl) (RunR.all (by kernel_rfl))))))))))))))) ?_
      refine W.keep rfl ?_
      cases h
      exact W.ret ((fin_ret (by kernel_rfl)))
end Go.Av.G
