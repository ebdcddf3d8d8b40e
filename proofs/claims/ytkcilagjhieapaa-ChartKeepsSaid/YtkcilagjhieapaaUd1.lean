/- What functions of the program compute, in plain words, and that they do: printed by a program of ours. -/
import Derived.Test.YtkcilagjhieapaaUd0
set_option linter.unusedVariables false
set_option linter.unusedSimpArgs false
set_option maxRecDepth 100000
set_option maxHeartbeats 8000000
namespace Go.Av.G
open Go Go.Av Go.Proofs
def pcashbooklaw18_ChartKeepsr0 : List GOp := [⟨(some 4), none, .mov (.cst (.bool false))⟩]
def pcashbooklaw18_ChartKeepsr1 : List GOp := [⟨(some 5), none, .alloc [.nils, .nils]⟩]
def pcashbooklaw18_ChartKeepsr2 : List GOp := [⟨(some 33), none, .mkmap (.i .i64)⟩, ⟨(some 34), none, .mkmap (.i .i64)⟩, ⟨(some 6), none, .mov (.tmp 33)⟩, ⟨(some 7), none, .mov (.tmp 34)⟩]
def pcashbooklaw18_ChartKeepsr3 : List GOp := [⟨(some 35), none, .mkmap (.i .i64)⟩, ⟨(some 8), none, .mov (.tmp 35)⟩]
def pcashbooklaw18_ChartKeepsr4 : List GOp := [⟨(some 36), none, .mov (.tmp 0)⟩, ⟨(some 37), none, .mov (.tmp 0)⟩, ⟨(some 38), none, .len false (.tmp 37)⟩, ⟨(some 39), none, .mm false (.tmp 38) [(.cst (.int .i64 60))]⟩, ⟨(some 40), none, .slc false 11 (.tmp 36) none (some (.tmp 39))⟩, ⟨(some 41), none, .len false (.tmp 40)⟩, ⟨(some 42), none, .mov (.cst (.int .i64 0))⟩]
def pcashbooklaw18_ChartKeepsr5 : List GOp := [⟨(some 43), none, .bin false .lss (.tmp 42) (.tmp 41)⟩]
def pcashbooklaw18_ChartKeepsr6 : List GOp := [⟨(some 44), none, .idx 11 (.tmp 40) (.tmp 42)⟩, ⟨(some 45), none, .load true 11 (.tmp 44)⟩, ⟨(some 10), none, .alloc [.pv (.int .i64 0), .pv (.int .i64 0), .pv (.int .i64 0), .pv (.int .i64 0), .pv (.int .i64 0), .pv (.int .i64 0), .pv (.int .i64 0), .pv (.int .i64 0), .pv (.int .i32 0), .pv (.int .i32 0), .pv (.int .i32 0)]⟩, ⟨none, none, .store 11 (.tmp 10) (.tmp 45)⟩]
def pcashbooklaw18_ChartKeepsr7 : List GOp := [⟨(some 46), none, .fld 2 (.tmp 10)⟩, ⟨(some 47), none, .fld 7 (.tmp 46)⟩, ⟨none, none, .store 1 (.tmp 47) (.cst (.int .i32 50000))⟩]
def pcashbooklaw18_ChartKeepsr8 : List GOp := [⟨(some 48), none, .fld 0 (.tmp 10)⟩, ⟨(some 49), none, .load false 1 (.tmp 48)⟩, ⟨(some 50), none, .bin false .rem (.tmp 49) (.cst (.int .i64 4))⟩, ⟨(some 51), none, .bin false .add (.tmp 50) (.cst (.int .i64 4))⟩, ⟨(some 52), none, .bin false .rem (.tmp 51) (.cst (.int .i64 4))⟩]
def pcashbooklaw18_ChartKeepsr9 : List GOp := [⟨(some 123), none, .bin false .eql (.tmp 52) (.cst (.int .i64 0))⟩, ⟨(some 122), none, .mov (.tmp 123)⟩]
def pcashbooklaw18_ChartKeepsr10 : List GOp := [⟨(some 125), none, .load true 2 (.tmp 5)⟩, ⟨(some 126), none, .fld 1 (.tmp 10)⟩, ⟨(some 127), none, .load false 1 (.tmp 126)⟩, ⟨(some 128), none, .build [.pv (.int .i64 0), .pv (.str []), .pv (.int .i64 0)] [(0, 1, (.tmp 127)), (1, 1, (.cst (.str [120])))]⟩, ⟨(some 129), none, .call 0 0 (.cst (.fn 13)) [(.tmp 125), (.tmp 128)] [] []⟩, ⟨(some 124), none, .mov (.tmp 129)⟩, ⟨(some 130), none, .ext 0 (.tmp 124)⟩, ⟨(some 131), none, .ext 1 (.tmp 124)⟩, ⟨(some 11), none, .alloc [.nils, .nils]⟩, ⟨none, none, .store 2 (.tmp 11) (.tmp 130)⟩, ⟨(some 12), none, .mov (.tmp 131)⟩]
def pcashbooklaw18_ChartKeepsr11 : List GOp := [⟨(some 132), none, .mov (.tmp 12)⟩, ⟨(some 133), none, .bin false .eql (.tmp 132) (.cst (.int .i64 26))⟩, ⟨(some 134), none, .mov (.tmp 8)⟩, ⟨(some 135), none, .fld 1 (.tmp 10)⟩, ⟨(some 136), none, .load false 1 (.tmp 135)⟩, ⟨(some 137), none, .mlook (.i .i64) false (.int .i64 0) (.tmp 134) (.tmp 136)⟩, ⟨(some 138), none, .bin false .gtr (.tmp 137) (.cst (.int .i64 0))⟩, ⟨(some 139), none, .bin true .neq (.tmp 133) (.tmp 138)⟩, ⟨(some 140), none, .mov (.tmp 139)⟩, ⟨(some 141), (some (140, false)), .mov (.tmp 12)⟩, ⟨(some 142), (some (140, false)), .bin false .eql (.tmp 141) (.cst (.int .i64 1))⟩, ⟨(some 143), (some (140, false)), .mov (.tmp 142)⟩, ⟨(some 144), (some (143, true)), .fld 1 (.tmp 10)⟩, ⟨(some 145), (some (143, true)), .load false 1 (.tmp 144)⟩, ⟨(some 146), (some (143, true)), .bin false .geq (.tmp 145) (.cst (.int .i64 1))⟩, ⟨(some 147), (some (140, false)), .pick (.tmp 143) (.tmp 146) (.cst (.bool false))⟩, ⟨(some 148), (some (140, false)), .mov (.tmp 147)⟩, ⟨(some 149), (some (148, true)), .fld 1 (.tmp 10)⟩, ⟨(some 150), (some (148, true)), .load false 1 (.tmp 149)⟩, ⟨(some 151), (some (148, true)), .bin false .leq (.tmp 150) (.cst (.int .i64 999))⟩, ⟨(some 152), (some (140, false)), .pick (.tmp 148) (.tmp 151) (.cst (.bool false))⟩, ⟨(some 153), none, .pick (.tmp 140) (.cst (.bool true)) (.tmp 152)⟩]
def pcashbooklaw18_ChartKeepsr12 : List GOp := [⟨(some 4), none, .mov (.cst (.bool false))⟩]
def pcashbooklaw18_ChartKeepsr13 : List GOp := [⟨(some 154), none, .mov (.tmp 12)⟩, ⟨(some 155), none, .bin false .eql (.tmp 154) (.cst (.int .i64 0))⟩]
def pcashbooklaw18_ChartKeepsr14 : List GOp := [⟨(some 156), none, .load true 2 (.tmp 11)⟩, ⟨none, none, .store 2 (.tmp 5) (.tmp 156)⟩]
def pcashbooklaw18_ChartKeepsr15 : List GOp := [⟨(some 157), none, .mov (.tmp 8)⟩, ⟨(some 158), none, .fld 1 (.tmp 10)⟩, ⟨(some 159), none, .load false 1 (.tmp 158)⟩, ⟨(some 160), none, .mlook (.i .i64) false (.int .i64 0) (.tmp 157) (.tmp 159)⟩, ⟨(some 161), none, .bin false .add (.tmp 160) (.cst (.int .i64 1))⟩, ⟨none, none, .mset (.i .i64) (.tmp 157) (.tmp 159) (.tmp 161)⟩]
def pcashbooklaw18_ChartKeepsr16 : List GOp := [⟨(some 163), none, .bin false .eql (.tmp 52) (.cst (.int .i64 3))⟩, ⟨(some 162), none, .mov (.tmp 163)⟩]
def pcashbooklaw18_ChartKeepsr17 : List GOp := [⟨(some 165), none, .load true 2 (.tmp 5)⟩, ⟨(some 166), none, .fld 2 (.tmp 10)⟩, ⟨(some 167), none, .fld 0 (.tmp 166)⟩, ⟨(some 168), none, .load false 1 (.tmp 167)⟩, ⟨(some 169), none, .fld 10 (.tmp 10)⟩, ⟨(some 170), none, .load false 1 (.tmp 169)⟩, ⟨(some 171), none, .call 0 0 (.cst (.fn 15)) [(.tmp 165), (.tmp 168), (.tmp 170)] [] []⟩, ⟨(some 164), none, .mov (.tmp 171)⟩, ⟨(some 172), none, .ext 0 (.tmp 164)⟩, ⟨(some 173), none, .ext 1 (.tmp 164)⟩, ⟨(some 13), none, .alloc [.nils, .nils]⟩, ⟨none, none, .store 2 (.tmp 13) (.tmp 172)⟩, ⟨(some 14), none, .mov (.tmp 173)⟩]
def pcashbooklaw18_ChartKeepsr18 : List GOp := [⟨(some 175), none, .mov (.tmp 6)⟩, ⟨(some 176), none, .fld 2 (.tmp 10)⟩, ⟨(some 177), none, .fld 0 (.tmp 176)⟩, ⟨(some 178), none, .load false 1 (.tmp 177)⟩, ⟨(some 179), none, .mlook (.i .i64) true (.agg [(.int .i64 0), (.int .i64 0), (.int .i64 0), (.int .i64 0), (.int .i64 0), (.int .i64 0), (.int .i32 0), (.int .i32 0)]) (.tmp 175) (.tmp 178)⟩, ⟨(some 174), none, .mov (.tmp 179)⟩, ⟨(some 180), none, .ext 0 (.tmp 174)⟩, ⟨(some 181), none, .ext 1 (.tmp 174)⟩, ⟨(some 15), none, .alloc [.pv (.int .i64 0), .pv (.int .i64 0), .pv (.int .i64 0), .pv (.int .i64 0), .pv (.int .i64 0), .pv (.int .i64 0), .pv (.int .i32 0), .pv (.int .i32 0)]⟩, ⟨none, none, .store 8 (.tmp 15) (.tmp 180)⟩, ⟨(some 16), none, .mov (.tmp 181)⟩]
def pcashbooklaw18_ChartKeepsr19 : List GOp := [⟨(some 183), none, .mov (.tmp 7)⟩, ⟨(some 184), none, .fld 2 (.tmp 10)⟩, ⟨(some 185), none, .fld 0 (.tmp 184)⟩, ⟨(some 186), none, .load false 1 (.tmp 185)⟩, ⟨(some 187), none, .mlook (.i .i64) true (.int .i32 0) (.tmp 183) (.tmp 186)⟩, ⟨(some 182), none, .mov (.tmp 187)⟩, ⟨(some 188), none, .ext 0 (.tmp 182)⟩, ⟨(some 189), none, .ext 1 (.tmp 182)⟩, ⟨(some 17), none, .mov (.tmp 188)⟩, ⟨(some 18), none, .mov (.tmp 189)⟩]
def pcashbooklaw18_ChartKeepsr20 : List GOp := [⟨(some 190), none, .mov (.tmp 14)⟩, ⟨(some 191), none, .bin false .eql (.tmp 190) (.cst (.int .i64 8))⟩, ⟨(some 192), none, .mov (.tmp 16)⟩, ⟨(some 193), none, .un .not (.tmp 192)⟩, ⟨(some 194), none, .bin true .neq (.tmp 191) (.tmp 193)⟩, ⟨(some 195), none, .mov (.tmp 194)⟩, ⟨(some 196), (some (195, false)), .mov (.tmp 14)⟩, ⟨(some 197), (some (195, false)), .bin false .eql (.tmp 196) (.cst (.int .i64 16))⟩, ⟨(some 198), (some (195, false)), .mov (.tmp 197)⟩, ⟨(some 199), (some (198, true)), .mov (.tmp 18)⟩, ⟨(some 200), (some (198, true)), .un .not (.tmp 199)⟩, ⟨(some 201), (some (195, false)), .pick (.tmp 198) (.tmp 200) (.cst (.bool false))⟩, ⟨(some 202), none, .pick (.tmp 195) (.cst (.bool true)) (.tmp 201)⟩, ⟨(some 203), none, .mov (.tmp 202)⟩, ⟨(some 204), (some (203, false)), .mov (.tmp 14)⟩, ⟨(some 205), (some (203, false)), .bin false .eql (.tmp 204) (.cst (.int .i64 0))⟩, ⟨(some 206), (some (203, false)), .mov (.tmp 205)⟩, ⟨(some 207), (some (206, true)), .mov (.tmp 18)⟩, ⟨(some 208), (some (206, true)), .mov (.tmp 207)⟩, ⟨(some 209), (some (208, false)), .fld 10 (.tmp 10)⟩, ⟨(some 210), (some (208, false)), .load false 1 (.tmp 209)⟩, ⟨(some 211), (some (208, false)), .fld 6 (.tmp 15)⟩, ⟨(some 212), (some (208, false)), .load false 1 (.tmp 211)⟩, ⟨(some 213), (some (208, false)), .bin false .lss (.tmp 210) (.tmp 212)⟩, ⟨(some 214), (some (206, true)), .pick (.tmp 208) (.cst (.bool true)) (.tmp 213)⟩, ⟨(some 215), (some (203, false)), .pick (.tmp 206) (.tmp 214) (.cst (.bool false))⟩, ⟨(some 216), none, .pick (.tmp 203) (.cst (.bool true)) (.tmp 215)⟩]
def pcashbooklaw18_ChartKeepsr21 : List GOp := [⟨(some 4), none, .mov (.cst (.bool false))⟩]
def pcashbooklaw18_ChartKeepsr22 : List GOp := [⟨(some 217), none, .mov (.tmp 14)⟩, ⟨(some 218), none, .bin false .eql (.tmp 217) (.cst (.int .i64 0))⟩]
def pcashbooklaw18_ChartKeepsr23 : List GOp := [⟨(some 219), none, .load true 2 (.tmp 13)⟩, ⟨none, none, .store 2 (.tmp 5) (.tmp 219)⟩]
def pcashbooklaw18_ChartKeepsr24 : List GOp := [⟨(some 220), none, .fld 10 (.tmp 10)⟩, ⟨(some 221), none, .load false 1 (.tmp 220)⟩, ⟨(some 222), none, .bin false .neq (.tmp 221) (.cst (.int .i32 50000))⟩]
def pcashbooklaw18_ChartKeepsr25 : List GOp := [⟨(some 223), none, .mov (.tmp 7)⟩, ⟨(some 224), none, .fld 2 (.tmp 10)⟩, ⟨(some 225), none, .fld 0 (.tmp 224)⟩, ⟨(some 226), none, .load false 1 (.tmp 225)⟩, ⟨(some 227), none, .fld 10 (.tmp 10)⟩, ⟨(some 228), none, .load false 1 (.tmp 227)⟩, ⟨none, none, .mset (.i .i64) (.tmp 223) (.tmp 226) (.tmp 228)⟩]
def pcashbooklaw18_ChartKeepsr26 : List GOp := [⟨(some 54), none, .load true 2 (.tmp 5)⟩, ⟨(some 55), none, .fld 2 (.tmp 10)⟩, ⟨(some 56), none, .load true 8 (.tmp 55)⟩, ⟨(some 57), none, .call 0 0 (.cst (.fn 14)) [(.tmp 54), (.tmp 56)] [] []⟩, ⟨(some 53), none, .mov (.tmp 57)⟩, ⟨(some 58), none, .ext 0 (.tmp 53)⟩, ⟨(some 59), none, .ext 1 (.tmp 53)⟩, ⟨(some 19), none, .alloc [.nils, .nils]⟩, ⟨none, none, .store 2 (.tmp 19) (.tmp 58)⟩, ⟨(some 20), none, .mov (.tmp 59)⟩]
def pcashbooklaw18_ChartKeepsr27 : List GOp := [⟨(some 61), none, .mov (.tmp 6)⟩, ⟨(some 62), none, .fld 2 (.tmp 10)⟩, ⟨(some 63), none, .fld 0 (.tmp 62)⟩, ⟨(some 64), none, .load false 1 (.tmp 63)⟩, ⟨(some 65), none, .mlook (.i .i64) true (.agg [(.int .i64 0), (.int .i64 0), (.int .i64 0), (.int .i64 0), (.int .i64 0), (.int .i64 0), (.int .i32 0), (.int .i32 0)]) (.tmp 61) (.tmp 64)⟩, ⟨(some 60), none, .mov (.tmp 65)⟩, ⟨(some 66), none, .ext 0 (.tmp 60)⟩, ⟨(some 67), none, .ext 1 (.tmp 60)⟩, ⟨(some 21), none, .alloc [.pv (.int .i64 0), .pv (.int .i64 0), .pv (.int .i64 0), .pv (.int .i64 0), .pv (.int .i64 0), .pv (.int .i64 0), .pv (.int .i32 0), .pv (.int .i32 0)]⟩, ⟨none, none, .store 8 (.tmp 21) (.tmp 66)⟩, ⟨(some 22), none, .mov (.tmp 67)⟩]
def pcashbooklaw18_ChartKeepsr28 : List GOp := [⟨(some 68), none, .mov (.tmp 20)⟩, ⟨(some 69), none, .bin false .eql (.tmp 68) (.cst (.int .i64 26))⟩, ⟨(some 70), none, .mov (.tmp 69)⟩, ⟨(some 71), (some (70, true)), .mov (.tmp 22)⟩, ⟨(some 72), (some (70, true)), .un .not (.tmp 71)⟩, ⟨(some 73), none, .pick (.tmp 70) (.tmp 72) (.cst (.bool false))⟩, ⟨(some 74), none, .mov (.tmp 73)⟩, ⟨(some 75), (some (74, false)), .mov (.tmp 20)⟩, ⟨(some 76), (some (74, false)), .bin false .eql (.tmp 75) (.cst (.int .i64 0))⟩, ⟨(some 77), (some (74, false)), .mov (.tmp 76)⟩, ⟨(some 78), (some (77, true)), .mov (.tmp 22)⟩, ⟨(some 79), (some (77, true)), .mov (.tmp 78)⟩, ⟨(some 80), (some (79, false)), .fld 2 (.tmp 10)⟩, ⟨(some 81), (some (79, false)), .fld 3 (.tmp 80)⟩, ⟨(some 82), (some (79, false)), .load false 1 (.tmp 81)⟩, ⟨(some 83), (some (79, false)), .bin false .gtr (.tmp 82) (.cst (.int .i64 0))⟩, ⟨(some 84), (some (79, false)), .mov (.tmp 83)⟩, ⟨(some 85), (some (84, true)), .mov (.tmp 8)⟩, ⟨(some 86), (some (84, true)), .fld 2 (.tmp 10)⟩, ⟨(some 87), (some (84, true)), .fld 3 (.tmp 86)⟩, ⟨(some 88), (some (84, true)), .load false 1 (.tmp 87)⟩, ⟨(some 89), (some (84, true)), .mlook (.i .i64) false (.int .i64 0) (.tmp 85) (.tmp 88)⟩, ⟨(some 90), (some (84, true)), .bin false .eql (.tmp 89) (.cst (.int .i64 0))⟩, ⟨(some 91), (some (79, false)), .pick (.tmp 84) (.tmp 90) (.cst (.bool false))⟩, ⟨(some 92), (some (77, true)), .pick (.tmp 79) (.cst (.bool true)) (.tmp 91)⟩, ⟨(some 93), (some (74, false)), .pick (.tmp 77) (.tmp 92) (.cst (.bool false))⟩, ⟨(some 94), none, .pick (.tmp 74) (.cst (.bool true)) (.tmp 93)⟩, ⟨(some 95), none, .mov (.tmp 94)⟩, ⟨(some 96), (some (95, false)), .mov (.tmp 20)⟩, ⟨(some 97), (some (95, false)), .bin false .eql (.tmp 96) (.cst (.int .i64 8))⟩, ⟨(some 98), (some (95, false)), .mov (.tmp 97)⟩, ⟨(some 99), (some (98, true)), .fld 2 (.tmp 10)⟩, ⟨(some 100), (some (98, true)), .fld 3 (.tmp 99)⟩, ⟨(some 101), (some (98, true)), .load false 1 (.tmp 100)⟩, ⟨(some 102), (some (98, true)), .bin false .eql (.tmp 101) (.cst (.int .i64 0))⟩, ⟨(some 103), (some (98, true)), .mov (.tmp 102)⟩, ⟨(some 104), (some (103, false)), .mov (.tmp 8)⟩, ⟨(some 105), (some (103, false)), .fld 2 (.tmp 10)⟩, ⟨(some 106), (some (103, false)), .fld 3 (.tmp 105)⟩, ⟨(some 107), (some (103, false)), .load false 1 (.tmp 106)⟩, ⟨(some 108), (some (103, false)), .mlook (.i .i64) false (.int .i64 0) (.tmp 104) (.tmp 107)⟩, ⟨(some 109), (some (103, false)), .bin false .gtr (.tmp 108) (.cst (.int .i64 0))⟩, ⟨(some 110), (some (98, true)), .pick (.tmp 103) (.cst (.bool true)) (.tmp 109)⟩, ⟨(some 111), (some (95, false)), .pick (.tmp 98) (.tmp 110) (.cst (.bool false))⟩, ⟨(some 112), none, .pick (.tmp 95) (.cst (.bool true)) (.tmp 111)⟩]
def pcashbooklaw18_ChartKeepsr29 : List GOp := [⟨(some 4), none, .mov (.cst (.bool false))⟩]
def pcashbooklaw18_ChartKeepsr30 : List GOp := [⟨(some 113), none, .mov (.tmp 20)⟩, ⟨(some 114), none, .bin false .eql (.tmp 113) (.cst (.int .i64 0))⟩]
def pcashbooklaw18_ChartKeepsr31 : List GOp := [⟨(some 115), none, .load true 2 (.tmp 19)⟩, ⟨none, none, .store 2 (.tmp 5) (.tmp 115)⟩]
def pcashbooklaw18_ChartKeepsr32 : List GOp := [⟨(some 116), none, .mov (.tmp 6)⟩, ⟨(some 117), none, .fld 2 (.tmp 10)⟩, ⟨(some 118), none, .fld 0 (.tmp 117)⟩, ⟨(some 119), none, .load false 1 (.tmp 118)⟩, ⟨(some 120), none, .fld 2 (.tmp 10)⟩, ⟨(some 121), none, .load true 8 (.tmp 120)⟩, ⟨none, none, .mset (.i .i64) (.tmp 116) (.tmp 119) (.tmp 121)⟩]
def pcashbooklaw18_ChartKeepsr33 : List GOp := [⟨(some 229), none, .load true 2 (.tmp 5)⟩, ⟨(some 230), none, .call 0 0 (.cst (.fn 16)) [(.tmp 229)] [] []⟩, ⟨(some 231), none, .un .not (.tmp 230)⟩]
def pcashbooklaw18_ChartKeepsr34 : List GOp := [⟨(some 4), none, .mov (.cst (.bool false))⟩]
def pcashbooklaw18_ChartKeepsr35 : List GOp := [⟨(some 232), none, .bin false .add (.tmp 42) (.cst (.int .i64 1))⟩, ⟨(some 42), none, .mov (.tmp 232)⟩]
def pcashbooklaw18_ChartKeepsl36 : AC := (.keep [] [(1, false), (5, false), (6, false), (7, false), (8, false), (40, false), (41, false), (42, false)] [(.loc 33 0, false), (.loc 34 0, false), (.loc 35 0, false), (.loc 5 0, true)] [] [] (.seq (.ops pcashbooklaw18_ChartKeepsr5) (.seq (.cond (.tmp 43) .skip (.exit 0)) (.seq (.pass 1 (.seq (.ops pcashbooklaw18_ChartKeepsr6) (.seq (.ops pcashbooklaw18_ChartKeepsr7) (.seq (.seq (.ops pcashbooklaw18_ChartKeepsr8) (.pass 2 (.seq (.ops pcashbooklaw18_ChartKeepsr9) (.cond (.tmp 122) (.seq (.ops pcashbooklaw18_ChartKeepsr10) (.seq (.seq (.ops pcashbooklaw18_ChartKeepsr11) (.cond (.tmp 153) (.seq (.ops pcashbooklaw18_ChartKeepsr12) (.keep [] [(4, false)] [] [.loc 10 0, .loc 11 0, .loc 13 0, .loc 15 0, .loc 19 0, .loc 21 0, .loc 24 0, .loc 25 0, .loc 27 0, .loc 33 0, .loc 34 0, .loc 35 0, .loc 5 0] [] .ret)) .skip)) (.seq (.ops pcashbooklaw18_ChartKeepsr13) (.cond (.tmp 155) (.seq (.ops pcashbooklaw18_ChartKeepsr14) (.ops pcashbooklaw18_ChartKeepsr15)) .skip)))) (.seq (.ops pcashbooklaw18_ChartKeepsr16) (.cond (.tmp 162) (.seq (.ops pcashbooklaw18_ChartKeepsr17) (.seq (.ops pcashbooklaw18_ChartKeepsr18) (.seq (.ops pcashbooklaw18_ChartKeepsr19) (.seq (.seq (.ops pcashbooklaw18_ChartKeepsr20) (.cond (.tmp 216) (.seq (.ops pcashbooklaw18_ChartKeepsr21) (.keep [] [(4, false)] [] [.loc 10 0, .loc 11 0, .loc 13 0, .loc 15 0, .loc 19 0, .loc 21 0, .loc 24 0, .loc 25 0, .loc 27 0, .loc 33 0, .loc 34 0, .loc 35 0, .loc 5 0] [] .ret)) .skip)) (.seq (.ops pcashbooklaw18_ChartKeepsr22) (.cond (.tmp 218) (.seq (.ops pcashbooklaw18_ChartKeepsr23) (.seq (.ops pcashbooklaw18_ChartKeepsr24) (.cond (.tmp 222) (.ops pcashbooklaw18_ChartKeepsr25) .skip))) .skip)))))) (.seq (.ops pcashbooklaw18_ChartKeepsr26) (.seq (.ops pcashbooklaw18_ChartKeepsr27) (.seq (.seq (.ops pcashbooklaw18_ChartKeepsr28) (.cond (.tmp 112) (.seq (.ops pcashbooklaw18_ChartKeepsr29) (.keep [] [(4, false)] [] [.loc 10 0, .loc 11 0, .loc 13 0, .loc 15 0, .loc 19 0, .loc 21 0, .loc 24 0, .loc 25 0, .loc 27 0, .loc 33 0, .loc 34 0, .loc 35 0, .loc 5 0] [] .ret)) .skip)) (.seq (.ops pcashbooklaw18_ChartKeepsr30) (.cond (.tmp 114) (.seq (.ops pcashbooklaw18_ChartKeepsr31) (.ops pcashbooklaw18_ChartKeepsr32)) .skip))))))))))) (.seq (.keep [] [(1, false), (5, false), (6, false), (7, false), (8, false), (40, false), (41, false), (42, false)] [(.loc 33 0, false), (.loc 34 0, false), (.loc 35 0, false), (.loc 5 0, false)] [.loc 10 0, .loc 11 0, .loc 13 0, .loc 15 0, .loc 19 0, .loc 21 0] [] (.ops pcashbooklaw18_ChartKeepsr33)) (.cond (.tmp 231) (.seq (.ops pcashbooklaw18_ChartKeepsr34) (.keep [] [(4, false)] [] [.loc 10 0, .loc 11 0, .loc 13 0, .loc 15 0, .loc 19 0, .loc 21 0, .loc 24 0, .loc 25 0, .loc 27 0, .loc 33 0, .loc 34 0, .loc 35 0, .loc 5 0] [] .ret)) .skip)))))) (.ops pcashbooklaw18_ChartKeepsr35)))))
def pcashbooklaw18_ChartKeepsr37 : List GOp := [⟨(some 233), none, .fld 1 (.tmp 5)⟩, ⟨(some 234), none, .load false 1 (.tmp 233)⟩, ⟨(some 235), none, .len false (.tmp 234)⟩, ⟨(some 236), none, .mov (.tmp 6)⟩, ⟨(some 237), none, .mlen (.tmp 236)⟩, ⟨(some 238), none, .bin false .neq (.tmp 235) (.tmp 237)⟩]
def pcashbooklaw18_ChartKeepsr38 : List GOp := [⟨(some 4), none, .mov (.cst (.bool false))⟩]
def pcashbooklaw18_ChartKeepsr39 : List GOp := [⟨(some 239), none, .fld 1 (.tmp 5)⟩, ⟨(some 240), none, .load false 1 (.tmp 239)⟩, ⟨(some 241), none, .len false (.tmp 240)⟩, ⟨(some 242), none, .mov (.cst (.int .i64 0))⟩]
def pcashbooklaw18_ChartKeepsr40 : List GOp := [⟨(some 243), none, .bin false .lss (.tmp 242) (.tmp 241)⟩]
def pcashbooklaw18_ChartKeepsr41 : List GOp := [⟨(some 244), none, .idx 8 (.tmp 240) (.tmp 242)⟩, ⟨(some 245), none, .load true 8 (.tmp 244)⟩, ⟨(some 24), none, .alloc [.pv (.int .i64 0), .pv (.int .i64 0), .pv (.int .i64 0), .pv (.int .i64 0), .pv (.int .i64 0), .pv (.int .i64 0), .pv (.int .i32 0), .pv (.int .i32 0)]⟩, ⟨none, none, .store 8 (.tmp 24) (.tmp 245)⟩]
def pcashbooklaw18_ChartKeepsr42 : List GOp := [⟨(some 247), none, .mov (.tmp 6)⟩, ⟨(some 248), none, .fld 0 (.tmp 24)⟩, ⟨(some 249), none, .load false 1 (.tmp 248)⟩, ⟨(some 250), none, .mlook (.i .i64) true (.agg [(.int .i64 0), (.int .i64 0), (.int .i64 0), (.int .i64 0), (.int .i64 0), (.int .i64 0), (.int .i32 0), (.int .i32 0)]) (.tmp 247) (.tmp 249)⟩, ⟨(some 246), none, .mov (.tmp 250)⟩, ⟨(some 251), none, .ext 0 (.tmp 246)⟩, ⟨(some 252), none, .ext 1 (.tmp 246)⟩, ⟨(some 25), none, .alloc [.pv (.int .i64 0), .pv (.int .i64 0), .pv (.int .i64 0), .pv (.int .i64 0), .pv (.int .i64 0), .pv (.int .i64 0), .pv (.int .i32 0), .pv (.int .i32 0)]⟩, ⟨none, none, .store 8 (.tmp 25) (.tmp 251)⟩, ⟨(some 26), none, .mov (.tmp 252)⟩]
def pcashbooklaw18_ChartKeepsr43 : List GOp := [⟨(some 254), none, .load true 2 (.tmp 5)⟩, ⟨(some 255), none, .fld 0 (.tmp 24)⟩, ⟨(some 256), none, .load false 1 (.tmp 255)⟩, ⟨(some 257), none, .call 0 0 (.cst (.fn 29)) [(.tmp 254), (.tmp 256)] [] []⟩, ⟨(some 253), none, .mov (.tmp 257)⟩, ⟨(some 258), none, .ext 0 (.tmp 253)⟩, ⟨(some 259), none, .ext 1 (.tmp 253)⟩, ⟨(some 27), none, .alloc [.pv (.int .i64 0), .pv (.int .i64 0), .pv (.int .i64 0), .pv (.int .i64 0), .pv (.int .i64 0), .pv (.int .i64 0), .pv (.int .i32 0), .pv (.int .i32 0)]⟩, ⟨none, none, .store 8 (.tmp 27) (.tmp 258)⟩, ⟨(some 28), none, .mov (.tmp 259)⟩]
def pcashbooklaw18_ChartKeepsr44 : List GOp := [⟨(some 261), none, .mov (.tmp 7)⟩, ⟨(some 262), none, .fld 0 (.tmp 24)⟩, ⟨(some 263), none, .load false 1 (.tmp 262)⟩, ⟨(some 264), none, .mlook (.i .i64) true (.int .i32 0) (.tmp 261) (.tmp 263)⟩, ⟨(some 260), none, .mov (.tmp 264)⟩, ⟨(some 265), none, .ext 0 (.tmp 260)⟩, ⟨(some 266), none, .ext 1 (.tmp 260)⟩, ⟨(some 29), none, .mov (.tmp 265)⟩, ⟨(some 30), none, .mov (.tmp 266)⟩]
def pcashbooklaw18_ChartKeepsr45 : List GOp := [⟨(some 267), none, .mov (.tmp 30)⟩]
def pcashbooklaw18_ChartKeepsr46 : List GOp := [⟨(some 268), none, .mov (.tmp 29)⟩, ⟨(some 269), none, .fld 7 (.tmp 25)⟩, ⟨none, none, .store 1 (.tmp 269) (.tmp 268)⟩]
def pcashbooklaw18_ChartKeepsr47 : List GOp := [⟨(some 270), none, .mov (.tmp 28)⟩, ⟨(some 271), none, .bin false .neq (.tmp 270) (.cst (.int .i64 0))⟩, ⟨(some 272), none, .mov (.tmp 271)⟩, ⟨(some 273), (some (272, false)), .mov (.tmp 26)⟩, ⟨(some 274), (some (272, false)), .un .not (.tmp 273)⟩, ⟨(some 275), none, .pick (.tmp 272) (.cst (.bool true)) (.tmp 274)⟩, ⟨(some 276), none, .mov (.tmp 275)⟩, ⟨(some 277), (some (276, false)), .load true 8 (.tmp 27)⟩, ⟨(some 278), (some (276, false)), .load true 8 (.tmp 24)⟩, ⟨(some 279), (some (276, false)), .eqs true [.i, .i, .i, .i, .i, .i, .i, .i] (.tmp 277) (.tmp 278)⟩, ⟨(some 280), none, .pick (.tmp 276) (.cst (.bool true)) (.tmp 279)⟩, ⟨(some 281), none, .mov (.tmp 280)⟩, ⟨(some 282), (some (281, false)), .load true 8 (.tmp 27)⟩, ⟨(some 283), (some (281, false)), .load true 8 (.tmp 25)⟩, ⟨(some 284), (some (281, false)), .eqs true [.i, .i, .i, .i, .i, .i, .i, .i] (.tmp 282) (.tmp 283)⟩, ⟨(some 285), none, .pick (.tmp 281) (.cst (.bool true)) (.tmp 284)⟩]
def pcashbooklaw18_ChartKeepsr48 : List GOp := [⟨(some 4), none, .mov (.cst (.bool false))⟩]
def pcashbooklaw18_ChartKeepsr49 : List GOp := [⟨(some 287), none, .load true 2 (.tmp 5)⟩, ⟨(some 288), none, .fld 0 (.tmp 24)⟩, ⟨(some 289), none, .load false 1 (.tmp 288)⟩, ⟨(some 290), none, .mov (.tmp 1)⟩, ⟨(some 291), none, .call 0 0 (.cst (.fn 30)) [(.tmp 287), (.tmp 289), (.tmp 290)] [] []⟩, ⟨(some 286), none, .mov (.tmp 291)⟩, ⟨(some 292), none, .ext 0 (.tmp 286)⟩, ⟨(some 293), none, .ext 1 (.tmp 286)⟩, ⟨(some 31), none, .mov (.tmp 292)⟩, ⟨(some 32), none, .mov (.tmp 293)⟩]
def pcashbooklaw18_ChartKeepsr50 : List GOp := [⟨(some 294), none, .mov (.tmp 32)⟩, ⟨(some 295), none, .bin false .neq (.tmp 294) (.cst (.int .i64 0))⟩, ⟨(some 296), none, .mov (.tmp 295)⟩, ⟨(some 297), (some (296, true)), .mov (.tmp 32)⟩, ⟨(some 298), (some (296, true)), .bin false .neq (.tmp 297) (.cst (.int .i64 11))⟩, ⟨(some 299), none, .pick (.tmp 296) (.tmp 298) (.cst (.bool false))⟩, ⟨(some 300), none, .mov (.tmp 299)⟩, ⟨(some 301), (some (300, false)), .mov (.tmp 32)⟩, ⟨(some 302), (some (300, false)), .bin false .eql (.tmp 301) (.cst (.int .i64 0))⟩, ⟨(some 303), (some (300, false)), .mov (.tmp 302)⟩, ⟨(some 304), (some (303, true)), .mov (.tmp 31)⟩, ⟨(some 305), (some (303, true)), .mov (.tmp 1)⟩, ⟨(some 306), (some (303, true)), .fld 6 (.tmp 27)⟩, ⟨(some 307), (some (303, true)), .load false 1 (.tmp 306)⟩, ⟨(some 308), (some (303, true)), .bin false .geq (.tmp 305) (.tmp 307)⟩, ⟨(some 309), (some (303, true)), .mov (.tmp 308)⟩, ⟨(some 310), (some (309, true)), .mov (.tmp 1)⟩, ⟨(some 311), (some (309, true)), .fld 7 (.tmp 27)⟩, ⟨(some 312), (some (309, true)), .load false 1 (.tmp 311)⟩, ⟨(some 313), (some (309, true)), .bin false .leq (.tmp 310) (.tmp 312)⟩, ⟨(some 314), (some (303, true)), .pick (.tmp 309) (.tmp 313) (.cst (.bool false))⟩, ⟨(some 315), (some (303, true)), .bin true .neq (.tmp 304) (.tmp 314)⟩, ⟨(some 316), (some (300, false)), .pick (.tmp 303) (.tmp 315) (.cst (.bool false))⟩, ⟨(some 317), none, .pick (.tmp 300) (.cst (.bool true)) (.tmp 316)⟩]
def pcashbooklaw18_ChartKeepsr51 : List GOp := [⟨(some 4), none, .mov (.cst (.bool false))⟩]
def pcashbooklaw18_ChartKeepsr52 : List GOp := [⟨(some 318), none, .bin false .add (.tmp 242) (.cst (.int .i64 1))⟩, ⟨(some 242), none, .mov (.tmp 318)⟩]
def pcashbooklaw18_ChartKeepsl53 : AC := (.keep [] [(1, false), (5, false), (6, false), (7, false), (240, false), (241, false), (242, false)] [(.loc 33 0, false), (.loc 34 0, false), (.loc 5 0, false)] [.loc 24 0, .loc 25 0, .loc 27 0] [] (.seq (.ops pcashbooklaw18_ChartKeepsr40) (.seq (.cond (.tmp 243) .skip (.exit 3)) (.seq (.pass 4 (.seq (.ops pcashbooklaw18_ChartKeepsr41) (.seq (.ops pcashbooklaw18_ChartKeepsr42) (.seq (.ops pcashbooklaw18_ChartKeepsr43) (.seq (.seq (.ops pcashbooklaw18_ChartKeepsr44) (.seq (.ops pcashbooklaw18_ChartKeepsr45) (.cond (.tmp 267) (.ops pcashbooklaw18_ChartKeepsr46) .skip))) (.seq (.seq (.keep [] [(1, false), (5, false), (6, false), (7, false), (24, false), (25, false), (26, false), (27, false), (28, false), (240, false), (241, false), (242, false)] [(.loc 24 0, false), (.loc 25 0, false), (.loc 27 0, false), (.loc 33 0, false), (.loc 34 0, false), (.loc 5 0, false)] [] [] (.ops pcashbooklaw18_ChartKeepsr47)) (.cond (.tmp 285) (.seq (.ops pcashbooklaw18_ChartKeepsr48) (.keep [] [(4, false)] [] [.loc 10 0, .loc 11 0, .loc 13 0, .loc 15 0, .loc 19 0, .loc 21 0, .loc 24 0, .loc 25 0, .loc 27 0, .loc 33 0, .loc 34 0, .loc 35 0, .loc 5 0] [] .ret)) .skip)) (.seq (.ops pcashbooklaw18_ChartKeepsr49) (.seq (.ops pcashbooklaw18_ChartKeepsr50) (.cond (.tmp 317) (.seq (.ops pcashbooklaw18_ChartKeepsr51) (.keep [] [(4, false)] [] [.loc 10 0, .loc 11 0, .loc 13 0, .loc 15 0, .loc 19 0, .loc 21 0, .loc 24 0, .loc 25 0, .loc 27 0, .loc 33 0, .loc 34 0, .loc 35 0, .loc 5 0] [] .ret)) .skip))))))))) (.ops pcashbooklaw18_ChartKeepsr52)))))
def pcashbooklaw18_ChartKeepsr54 : List GOp := [⟨(some 319), none, .call 0 0 (.cst (.fn 18)) [] [] []⟩, ⟨(some 4), none, .mov (.tmp 319)⟩]
def pcashbooklaw18_ChartKeepsb : AC := (.seq (.ops pcashbooklaw18_ChartKeepsr0) (.seq (.ops pcashbooklaw18_ChartKeepsr1) (.seq (.ops pcashbooklaw18_ChartKeepsr2) (.seq (.ops pcashbooklaw18_ChartKeepsr3) (.seq (.seq (.ops pcashbooklaw18_ChartKeepsr4) (.block 0 (.loop [1, 5, 6, 7, 8, 40, 41, 42] [] pcashbooklaw18_ChartKeepsl36))) (.seq (.seq (.keep [] [(1, false), (5, false), (6, false), (7, false)] [(.loc 33 0, false), (.loc 34 0, false), (.loc 5 0, false)] [.loc 35 0] [] (.ops pcashbooklaw18_ChartKeepsr37)) (.cond (.tmp 238) (.seq (.ops pcashbooklaw18_ChartKeepsr38) (.keep [] [(4, false)] [] [.loc 10 0, .loc 11 0, .loc 13 0, .loc 15 0, .loc 19 0, .loc 21 0, .loc 24 0, .loc 25 0, .loc 27 0, .loc 33 0, .loc 34 0, .loc 35 0, .loc 5 0] [] .ret)) .skip)) (.seq (.seq (.ops pcashbooklaw18_ChartKeepsr39) (.block 3 (.loop [1, 5, 6, 7, 240, 241, 242] [] pcashbooklaw18_ChartKeepsl53))) (.seq (.keep [] [] [] [.loc 33 0, .loc 34 0, .loc 5 0] [] (.ops pcashbooklaw18_ChartKeepsr54)) (.keep [] [(4, false)] [] [.loc 10 0, .loc 11 0, .loc 13 0, .loc 15 0, .loc 19 0, .loc 21 0, .loc 24 0, .loc 25 0, .loc 27 0, .loc 33 0, .loc 34 0, .loc 35 0, .loc 5 0] [] .ret)))))))))
def pcashbooklaw18_ChartKeeps : Fd := ⟨2, [.tmp 4], [], pcashbooklaw18_ChartKeepsb⟩
theorem pcashbooklaw18_ChartKeeps_ag : agreeF Try.prog Try.f4 pcashbooklaw18_ChartKeeps = true := by kernel_rfl
theorem cashbooklaw18_ChartKeeps_ok {steps1 : List T_cashbooklaw18_Step} {day2 : Int} {r : Bool} (h : cashbooklaw18_ChartKeeps steps1 day2 = some r) : Contract Try.prog 4 [.pv (.slice (List.map T_cashbooklaw18_Step.pv steps1)), .pv (.int .i32 day2)] [] ⟨.pv (.bool r), [], []⟩ := by
  refine contract_fin hm Try.func4 pcashbooklaw18_ChartKeeps_ag (by kernel_rfl) ?_
  unfold cashbooklaw18_ChartKeeps at h
  refine W.seqOps (RunR.all (by kernel_rfl)) ?_
  refine W.seqOps (RunR.all (by kernel_rfl)) ?_
  refine W.seqOps (RunR.all (by kernel_rfl)) ?_
  refine W.seqOps (RunR.all (by kernel_rfl)) ?_
  refine W.assoc ?_
  replace h := bindS h
  obtain ⟨x3, hx3, h⟩ := h
  refine W.seqOps (RunR.stat 2 (by kernel_rfl) (RunR.dyn (Step.lenT (f := T_cashbooklaw18_Step.pv) (l := steps1) (by kernel_rfl)) (RunR.stat 1 (by kernel_rfl) (RunR.dyn (Step.slcL (f := T_cashbooklaw18_Step.pv) (l := steps1) (m := x3) (a := 0) (b := (if 60 < (steps1.length : Int) then 60 else (steps1.length : Int))) (by kernel_rfl) (Bd.none rfl) (Bd.some (k := .i64) (by kernel_rfl)) hx3 (fun _ => rfl)) (RunR.dyn (Step.lenT (f := T_cashbooklaw18_Step.pv) (l := x3) (by kernel_rfl)) (RunR.all (by kernel_rfl))))))) ?_
  replace h := bindS h
  obtain ⟨j4, hj4, h⟩ := h
  refine W.joinOut (j := j4) (o := r) (fun p σ => σ.tidy [] [(1, false), (5, false), (6, false), (7, false)] [(.loc 33 0, false), (.loc 34 0, false), (.loc 5 0, false)] [.loc 35 0] [] = ⟨[(1, .pv (.int .i32 day2)), (5, .ptr (.loc 5 0) 0), (6, .mp (.loc 33 0)), (7, .mp (.loc 34 0))], [(.loc 33 0, .map (.i .i64) (List.map (eEnt (eInt .i64) T_api_Record.pv) p.2.1)), (.loc 34 0, .map (.i .i64) (List.map (eEnt (eInt .i64) (eInt .i32)) p.2.2)), (.loc 5 0, .box [.pv (.slice (List.map T_api_Customer.pv p.1.f_Customers)), .pv (.slice (List.map T_api_Record.pv p.1.f_Records))])]⟩) ?_ (fun p σj4 hp hsj4 => ?_) (fun p hp => ?_)
  · refine W.blockLoopO (fun q σ => ((σ.forget [1, 5, 6, 7, 8, 40, 41, 42]).killAll []).tidy [] [(1, false), (5, false), (6, false), (7, false), (8, false), (40, false), (41, false), (42, false)] [(.loc 33 0, false), (.loc 34 0, false), (.loc 35 0, false), (.loc 5 0, true)] [] [] = ⟨[(1, .pv (.int .i32 day2)), (5, .ptr (.loc 5 0) 0), (6, .mp (.loc 33 0)), (7, .mp (.loc 34 0)), (8, .mp (.loc 35 0)), (40, .pv (.slice (List.map T_cashbooklaw18_Step.pv x3))), (41, .pv (.int .i64 (x3.length : Int))), (42, .pv (.int .i64 q.1))], [(.loc 33 0, .map (.i .i64) (List.map (eEnt (eInt .i64) T_api_Record.pv) q.2.2.1)), (.loc 34 0, .map (.i .i64) (List.map (eEnt (eInt .i64) (eInt .i32)) q.2.2.2.1)), (.loc 35 0, .map (.i .i64) (List.map (eEnt (eInt .i64) (eInt .i64)) q.2.2.2.2)), (.loc 5 0, .box [.pv (.slice (List.map T_api_Customer.pv q.2.1.f_Customers)), .pv (.slice (List.map T_api_Record.pv q.2.1.f_Records))])]⟩) hj4 ?_ ?_
    · exact (by (show _ = _); kernel_rfl)
    · intro q σj4 oj4 hJj4 h
      obtain ⟨x5, c6, m7, m8, m9⟩ := q
      refine W.keep hJj4 ?_
      refine W.seqOps (RunR.all (by kernel_rfl)) ?_
      refine W.seqCond (t := decide (x5 < (x3.length : Int))) (by kernel_rfl) h (fun hc h' => ?_) (fun hc h' => ?_)
      · replace h := h'
        refine W.seqSkip ?_
        refine W.seqPass ?_
        refine W.assoc ?_
        replace h := bindS h
        obtain ⟨x10, hx10, h⟩ := h
        refine W.seqOps (RunR.dyn (Step.idxT (f := T_cashbooklaw18_Step.pv) (l := x3) (n := x5) (e := x10) (k := .i64) (by kernel_rfl) (by kernel_rfl) hx10 (by kernel_rfl)) (RunR.all (by kernel_rfl))) ?_
        refine W.assoc ?_
        refine W.seqOps (RunR.all (by kernel_rfl)) ?_
        refine W.assoc ?_
        refine W.assoc ?_
        refine W.seqOps (RunR.all (by kernel_rfl)) ?_
        refine W.seqPass ?_
        refine W.assoc ?_
        refine W.seqOps (RunR.all (by kernel_rfl)) ?_
        replace h := bindS h
        obtain ⟨j11, hj11, h⟩ := h
        refine W.joinOut (j := j11) (o := oj4) (fun p σ => σ.tidy [] [(1, false), (5, false), (6, false), (7, false), (8, false), (40, false), (41, false), (42, false)] [(.loc 33 0, false), (.loc 34 0, false), (.loc 35 0, false), (.loc 5 0, false)] [.loc 10 0, .loc 11 0, .loc 13 0, .loc 15 0, .loc 19 0, .loc 21 0] [] = ⟨[(1, .pv (.int .i32 day2)), (5, .ptr (.loc 5 0) 0), (6, .mp (.loc 33 0)), (7, .mp (.loc 34 0)), (8, .mp (.loc 35 0)), (40, .pv (.slice (List.map T_cashbooklaw18_Step.pv x3))), (41, .pv (.int .i64 (x3.length : Int))), (42, .pv (.int .i64 x5))], [(.loc 33 0, .map (.i .i64) (List.map (eEnt (eInt .i64) T_api_Record.pv) p.2.1)), (.loc 34 0, .map (.i .i64) (List.map (eEnt (eInt .i64) (eInt .i32)) p.2.2.1)), (.loc 35 0, .map (.i .i64) (List.map (eEnt (eInt .i64) (eInt .i64)) p.2.2.2)), (.loc 5 0, .box [.pv (.slice (List.map T_api_Customer.pv p.1.f_Customers)), .pv (.slice (List.map T_api_Record.pv p.1.f_Records))])]⟩) ?_ (fun p σj11 hp hsj11 => ?_) (fun p hp => ?_)
        · replace h := hj11
          refine W.condI (t := ((Int.tmod (IntKind.wrap .i64 ((Int.tmod x10.f_What 4) + 4)) 4) == 0)) (by kernel_rfl) h (fun hc h' => ?_) (fun hc h' => ?_)
          · replace h := h'
            replace h := bindS h
            obtain ⟨x12, hx12, h⟩ := h
            refine W.seqOps (RunR.stat 4 (by kernel_rfl) (RunR.cons (tab_cons (on := true) (fun _ => chart_Join_ok hx12) tab_nil) (Step.call0 (g := 13) (caps := []) (v := .tup [.pv (T_api_Chart.pv x12.1), .pv (.int .i64 x12.2)]) (by kernel_rfl) (by kernel_rfl) (by kernel_rfl) (tab_hit (by kernel_rfl)) (by kernel_rfl)) (RunR.all (by kernel_rfl)))) ?_
            refine W.assoc ?_
            replace h := bindS h
            obtain ⟨c13, hc13, h⟩ := h
            replace h := bindS h
            obtain ⟨c14, hc14, h⟩ := h
            replace h := bindS h
            obtain ⟨c15, hc15, h⟩ := h
            refine W.seqOps (RunR.stat 5 (by kernel_rfl) (RunR.dyn (Step.mlookT (key := .loc 35 0) (f := (eInt .i64)) (g := (eInt .i64)) (l := m9) (kv := x10.f_ID) (z := (0 : Int)) same1_int (by kernel_rfl) (by kernel_rfl) (by kernel_rfl) (by kernel_rfl) (by kernel_rfl)) (RunR.stat 2 (by kernel_rfl) (RunR.dyn (Step.name (f := eBool) (e := !((x12.2 == 26) == (decide (((mget m9 x10.f_ID).getD (0 : Int)) > 0)))) (c := c13) (by kernel_rfl) hc13) (RunR.puts 2 [(142, (bif !c13 then (.pv (.bool (x12.2 == 1))) else (.tup []))), (141, (bif !c13 then (.pv (.int .i64 x12.2)) else (.tup [])))] (by cases c13 <;> kernel_rfl) (RunR.dyn (Step.gdG (!c13) (by kernel_rfl) (by
                  cases c13
                  · exact .inr ⟨by kernel_rfl, by kernel_rfl, Step.name (f := eBool) (e := (x12.2 == 1)) (c := c14) (by kernel_rfl) hc14⟩
                  · exact .inl ⟨by kernel_rfl, by kernel_rfl⟩)) (RunR.puts 4 [(147, (bif !c13 then (.pv (.bool (c14 && (decide (x10.f_ID ≥ 1))))) else (.tup []))), (146, (bif ((!c13) && c14) then (.pv (.bool (decide (x10.f_ID ≥ 1)))) else (.tup []))), (145, (bif ((!c13) && c14) then (.pv (.int .i64 x10.f_ID)) else (.tup []))), (144, (bif ((!c13) && c14) then (.ptr (.loc 10 0) 1) else (.tup [])))] (by cases c13 <;> cases c14 <;> kernel_rfl) (RunR.dyn (Step.gdG (!c13) (by kernel_rfl) (by
                  cases c13
                  · exact .inr ⟨by kernel_rfl, by kernel_rfl, Step.name (f := eBool) (e := (c14 && (decide (x10.f_ID ≥ 1)))) (c := c15) (by kernel_rfl) hc15⟩
                  · exact .inl ⟨by kernel_rfl, by kernel_rfl⟩)) (RunR.puts 5 [(153, .pv (.bool (c13 || (c15 && (decide (x10.f_ID ≤ 999)))))), (152, (bif !c13 then (.pv (.bool (c15 && (decide (x10.f_ID ≤ 999))))) else (.tup []))), (151, (bif ((!c13) && c15) then (.pv (.bool (decide (x10.f_ID ≤ 999)))) else (.tup []))), (150, (bif ((!c13) && c15) then (.pv (.int .i64 x10.f_ID)) else (.tup []))), (149, (bif ((!c13) && c15) then (.ptr (.loc 10 0) 1) else (.tup [])))] (by cases c13 <;> cases c15 <;> kernel_rfl) ((.nil _))))))))))) ?_
            refine W.seqCond (t := (c13 || (c15 && (decide (x10.f_ID ≤ 999))))) (by kernel_rfl) h (fun hc h' => ?_) (fun hc h' => ?_)
            · replace h := h'
              refine W.assoc ?_
              refine W.seqOps (RunR.all (by kernel_rfl)) ?_
              refine W.seqKeep rfl ?_
              cases h
              exact W.seqRet ((outw_out ret_ne (fun e => by subst e; exact (outw_out ret_ne (bout_o ret_ne ret_ne' (fun e => by subst e; exact (fin_ret (by kernel_rfl))))))))
            · replace h := h'
              refine W.seqSkip ?_
              refine W.seqOps (RunR.all (by kernel_rfl)) ?_
              refine W.condI (t := (x12.2 == 0)) (by kernel_rfl) h (fun hc h' => ?_) (fun hc h' => ?_)
              · replace h := h'
                refine W.seqOps (RunR.all (by kernel_rfl)) ?_
                refine W.ops (RunR.stat 3 (by kernel_rfl) (RunR.dyn (Step.mlookT (key := .loc 35 0) (f := (eInt .i64)) (g := (eInt .i64)) (l := m9) (kv := x10.f_ID) (z := (0 : Int)) same1_int (by kernel_rfl) (by kernel_rfl) (by kernel_rfl) (by kernel_rfl) (by kernel_rfl)) (RunR.stat 1 (by kernel_rfl) (RunR.dyn (Step.msetT (key := .loc 35 0) (f := (eInt .i64)) (g := (eInt .i64)) (l := m9) (kv := x10.f_ID) (vv := IntKind.wrap .i64 (((mget m9 x10.f_ID).getD (0 : Int)) + 1)) same1_int (by kernel_rfl) (by kernel_rfl) (by kernel_rfl) (by kernel_rfl) (by kernel_rfl)) ((.nil _)))))) ?_
                cases h
                exact (outw_in (by (show _ = _); kernel_rfl))
              · replace h := h'
                cases h
                exact W.skip ((outw_in (by (show _ = _); kernel_rfl)))
          · replace h := h'
            refine W.seqOps (RunR.all (by kernel_rfl)) ?_
            refine W.condI (t := ((Int.tmod (IntKind.wrap .i64 ((Int.tmod x10.f_What 4) + 4)) 4) == 3)) (by kernel_rfl) h (fun hc h' => ?_) (fun hc h' => ?_)
            · replace h := h'
              replace h := bindS h
              obtain ⟨x16, hx16, h⟩ := h
              refine W.seqOps (RunR.stat 6 (by kernel_rfl) (RunR.cons (tab_cons (on := true) (fun _ => chart_Close_ok hx16) tab_nil) (Step.call0 (g := 15) (caps := []) (v := .tup [.pv (T_api_Chart.pv x16.1), .pv (.int .i64 x16.2)]) (by kernel_rfl) (by kernel_rfl) (by kernel_rfl) (tab_hit (by kernel_rfl)) (by kernel_rfl)) (RunR.all (by kernel_rfl)))) ?_
              refine W.seqOps (RunR.stat 4 (by kernel_rfl) (RunR.dyn (Step.mlookOkT (key := .loc 33 0) (f := (eInt .i64)) (g := T_api_Record.pv) (l := m7) (kv := x10.f_Rec.f_Acc) (z := ((⟨0, 0, 0, 0, 0, 0, 0, 0⟩ : T_api_Record) : T_api_Record)) same1_int (by kernel_rfl) (by kernel_rfl) (by kernel_rfl) (by kernel_rfl) (by kernel_rfl)) (RunR.all (by kernel_rfl)))) ?_
              refine W.seqOps (RunR.stat 4 (by kernel_rfl) (RunR.dyn (Step.mlookOkT (key := .loc 34 0) (f := (eInt .i64)) (g := (eInt .i32)) (l := m8) (kv := x10.f_Rec.f_Acc) (z := (0 : Int)) same1_int (by kernel_rfl) (by kernel_rfl) (by kernel_rfl) (by kernel_rfl) (by kernel_rfl)) (RunR.all (by kernel_rfl)))) ?_
              refine W.assoc ?_
              replace h := bindS h
              obtain ⟨c17, hc17, h⟩ := h
              replace h := bindS h
              obtain ⟨c18, hc18, h⟩ := h
              replace h := bindS h
              obtain ⟨c19, hc19, h⟩ := h
              replace h := bindS h
              obtain ⟨c20, hc20, h⟩ := h
              replace h := bindS h
              obtain ⟨c21, hc21, h⟩ := h
              refine W.seqOps (RunR.stat 5 (by kernel_rfl) (RunR.dyn (Step.name (f := eBool) (e := !((x16.2 == 8) == (!((mget m7 x10.f_Rec.f_Acc).isSome)))) (c := c17) (by kernel_rfl) hc17) (RunR.puts 2 [(197, (bif !c17 then (.pv (.bool (x16.2 == 16))) else (.tup []))), (196, (bif !c17 then (.pv (.int .i64 x16.2)) else (.tup [])))] (by cases c17 <;> kernel_rfl) (RunR.dyn (Step.gdG (!c17) (by kernel_rfl) (by
                    cases c17
                    · exact .inr ⟨by kernel_rfl, by kernel_rfl, Step.name (f := eBool) (e := (x16.2 == 16)) (c := c18) (by kernel_rfl) hc18⟩
                    · exact .inl ⟨by kernel_rfl, by kernel_rfl⟩)) (RunR.puts 4 [(202, .pv (.bool (c17 || (c18 && (!((mget m8 x10.f_Rec.f_Acc).isSome)))))), (201, (bif !c17 then (.pv (.bool (c18 && (!((mget m8 x10.f_Rec.f_Acc).isSome))))) else (.tup []))), (200, (bif ((!c17) && c18) then (.pv (.bool (!((mget m8 x10.f_Rec.f_Acc).isSome)))) else (.tup []))), (199, (bif ((!c17) && c18) then (.pv (.bool ((mget m8 x10.f_Rec.f_Acc).isSome))) else (.tup [])))] (by cases c17 <;> cases c18 <;> kernel_rfl) (RunR.dyn (Step.name (f := eBool) (e := (c17 || (c18 && (!((mget m8 x10.f_Rec.f_Acc).isSome))))) (c := c19) (by kernel_rfl) hc19) (RunR.puts 2 [(205, (bif !c19 then (.pv (.bool (x16.2 == 0))) else (.tup []))), (204, (bif !c19 then (.pv (.int .i64 x16.2)) else (.tup [])))] (by cases c19 <;> kernel_rfl) (RunR.dyn (Step.gdG (!c19) (by kernel_rfl) (by
                    cases c19
                    · exact .inr ⟨by kernel_rfl, by kernel_rfl, Step.name (f := eBool) (e := (x16.2 == 0)) (c := c20) (by kernel_rfl) hc20⟩
                    · exact .inl ⟨by kernel_rfl, by kernel_rfl⟩)) (RunR.puts 1 [(207, (bif ((!c19) && c20) then (.pv (.bool ((mget m8 x10.f_Rec.f_Acc).isSome))) else (.tup [])))] (by cases c19 <;> cases c20 <;> kernel_rfl) (RunR.dyn (Step.gdG ((!c19) && c20) (by kernel_rfl) (by
                    cases c19
                    · cases c20
                      · exact .inl ⟨by kernel_rfl, by kernel_rfl⟩
                      · exact .inr ⟨by kernel_rfl, by kernel_rfl, Step.name (f := eBool) (e := (mget m8 x10.f_Rec.f_Acc).isSome) (c := c21) (by kernel_rfl) hc21⟩
                    · cases c20
                      · exact .inl ⟨by kernel_rfl, by kernel_rfl⟩
                      · exact .inl ⟨by kernel_rfl, by kernel_rfl⟩)) (RunR.puts 1 [(209, (bif ((!c19) && c20 && (!c21)) then (.ptr (.loc 10 0) 10) else (.tup [])))] (by cases c19 <;> cases c20 <;> cases c21 <;> kernel_rfl) (RunR.puts 1 [(210, (bif ((!c19) && c20 && (!c21)) then (.pv (.int .i32 x10.f_Day)) else (.tup [])))] (by cases c19 <;> cases c20 <;> cases c21 <;> kernel_rfl) (RunR.puts 1 [(211, (bif ((!c19) && c20 && (!c21)) then (.ptr (.loc 15 0) 6) else (.tup [])))] (by cases c19 <;> cases c20 <;> cases c21 <;> kernel_rfl) (RunR.puts 1 [(212, (bif ((!c19) && c20 && (!c21)) then (.pv (.int .i32 (((mget m7 x10.f_Rec.f_Acc).getD ((⟨0, 0, 0, 0, 0, 0, 0, 0⟩ : T_api_Record) : T_api_Record)).f_From))) else (.tup [])))] (by cases c19 <;> cases c20 <;> cases c21 <;> kernel_rfl) (RunR.puts 1 [(213, (bif ((!c19) && c20 && (!c21)) then (.pv (.bool (decide (x10.f_Day < (((mget m7 x10.f_Rec.f_Acc).getD ((⟨0, 0, 0, 0, 0, 0, 0, 0⟩ : T_api_Record) : T_api_Record)).f_From))))) else (.tup [])))] (by cases c19 <;> cases c20 <;> cases c21 <;> kernel_rfl) (RunR.puts 1 [(214, (bif ((!c19) && c20) then (.pv (.bool (c21 || (decide (x10.f_Day < (((mget m7 x10.f_Rec.f_Acc).getD ((⟨0, 0, 0, 0, 0, 0, 0, 0⟩ : T_api_Record) : T_api_Record)).f_From)))))) else (.tup [])))] (by cases c21 <;> cases c19 <;> cases c20 <;> kernel_rfl) (RunR.puts 2 [(216, .pv (.bool (c19 || (c20 && (c21 || (decide (x10.f_Day < (((mget m7 x10.f_Rec.f_Acc).getD ((⟨0, 0, 0, 0, 0, 0, 0, 0⟩ : T_api_Record) : T_api_Record)).f_From)))))))), (215, (bif !c19 then (.pv (.bool (c20 && (c21 || (decide (x10.f_Day < (((mget m7 x10.f_Rec.f_Acc).getD ((⟨0, 0, 0, 0, 0, 0, 0, 0⟩ : T_api_Record) : T_api_Record)).f_From))))))) else (.tup [])))] (by cases c20 <;> cases c19 <;> kernel_rfl) ((.nil _))))))))))))))))))) ?_
              refine W.seqCond (t := (c19 || (c20 && (c21 || (decide (x10.f_Day < (((mget m7 x10.f_Rec.f_Acc).getD ((⟨0, 0, 0, 0, 0, 0, 0, 0⟩ : T_api_Record) : T_api_Record)).f_From))))))) (by kernel_rfl) h (fun hc h' => ?_) (fun hc h' => ?_)
              · replace h := h'
                refine W.assoc ?_
                refine W.seqOps (RunR.all (by kernel_rfl)) ?_
                refine W.seqKeep rfl ?_
                cases h
                exact W.seqRet ((outw_out ret_ne (fun e => by subst e; exact (outw_out ret_ne (bout_o ret_ne ret_ne' (fun e => by subst e; exact (fin_ret (by kernel_rfl))))))))
              · replace h := h'
                refine W.seqSkip ?_
                refine W.seqOps (RunR.all (by kernel_rfl)) ?_
                refine W.condI (t := (x16.2 == 0)) (by kernel_rfl) h (fun hc h' => ?_) (fun hc h' => ?_)
                · replace h := h'
                  refine W.seqOps (RunR.all (by kernel_rfl)) ?_
                  refine W.seqOps (RunR.all (by kernel_rfl)) ?_
                  refine W.condI (t := (x10.f_Day != 50000)) (by kernel_rfl) h (fun hc h' => ?_) (fun hc h' => ?_)
                  · replace h := h'
                    refine W.ops (RunR.stat 6 (by kernel_rfl) (RunR.dyn (Step.msetT (key := .loc 34 0) (f := (eInt .i64)) (g := (eInt .i32)) (l := m8) (kv := x10.f_Rec.f_Acc) (vv := x10.f_Day) same1_int (by kernel_rfl) (by kernel_rfl) (by kernel_rfl) (by kernel_rfl) (by kernel_rfl)) ((.nil _)))) ?_
                    cases h
                    exact (outw_in (by (show _ = _); kernel_rfl))
                  · replace h := h'
                    cases h
                    exact W.skip ((outw_in (by (show _ = _); kernel_rfl)))
                · replace h := h'
                  cases h
                  exact W.skip ((outw_in (by (show _ = _); kernel_rfl)))
            · replace h := h'
              replace h := bindS h
              obtain ⟨x22, hx22, h⟩ := h
              refine W.seqOps (RunR.stat 3 (by kernel_rfl) (RunR.cons (tab_cons (on := true) (fun _ => chart_Open_ok hx22) tab_nil) (Step.call0 (g := 14) (caps := []) (v := .tup [.pv (T_api_Chart.pv x22.1), .pv (.int .i64 x22.2)]) (by kernel_rfl) (by kernel_rfl) (by kernel_rfl) (tab_hit (by kernel_rfl)) (by kernel_rfl)) (RunR.all (by kernel_rfl)))) ?_
              refine W.seqOps (RunR.stat 4 (by kernel_rfl) (RunR.dyn (Step.mlookOkT (key := .loc 33 0) (f := (eInt .i64)) (g := T_api_Record.pv) (l := m7) (kv := x10.f_Rec.f_Acc) (z := ((⟨0, 0, 0, 0, 0, 0, 0, 0⟩ : T_api_Record) : T_api_Record)) same1_int (by kernel_rfl) (by kernel_rfl) (by kernel_rfl) (by kernel_rfl) (by kernel_rfl)) (RunR.all (by kernel_rfl)))) ?_
              refine W.assoc ?_
              replace h := bindS h
              obtain ⟨c23, hc23, h⟩ := h
              replace h := bindS h
              obtain ⟨c24, hc24, h⟩ := h
              replace h := bindS h
              obtain ⟨c25, hc25, h⟩ := h
              replace h := bindS h
              obtain ⟨c26, hc26, h⟩ := h
              replace h := bindS h
              obtain ⟨c27, hc27, h⟩ := h
              replace h := bindS h
              obtain ⟨c28, hc28, h⟩ := h
              replace h := bindS h
              obtain ⟨c29, hc29, h⟩ := h
              replace h := bindS h
              obtain ⟨c30, hc30, h⟩ := h
              refine W.seqOps (RunR.stat 2 (by kernel_rfl) (RunR.dyn (Step.name (f := eBool) (e := (x22.2 == 26)) (c := c23) (by kernel_rfl) hc23) (RunR.puts 3 [(73, .pv (.bool (c23 && (!((mget m7 x10.f_Rec.f_Acc).isSome))))), (72, (bif c23 then (.pv (.bool (!((mget m7 x10.f_Rec.f_Acc).isSome)))) else (.tup []))), (71, (bif c23 then (.pv (.bool ((mget m7 x10.f_Rec.f_Acc).isSome))) else (.tup [])))] (by cases c23 <;> kernel_rfl) (RunR.dyn (Step.name (f := eBool) (e := (c23 && (!((mget m7 x10.f_Rec.f_Acc).isSome)))) (c := c24) (by kernel_rfl) hc24) (RunR.puts 2 [(76, (bif !c24 then (.pv (.bool (x22.2 == 0))) else (.tup []))), (75, (bif !c24 then (.pv (.int .i64 x22.2)) else (.tup [])))] (by cases c24 <;> kernel_rfl) (RunR.dyn (Step.gdG (!c24) (by kernel_rfl) (by
                    cases c24
                    · exact .inr ⟨by kernel_rfl, by kernel_rfl, Step.name (f := eBool) (e := (x22.2 == 0)) (c := c25) (by kernel_rfl) hc25⟩
                    · exact .inl ⟨by kernel_rfl, by kernel_rfl⟩)) (RunR.puts 1 [(78, (bif ((!c24) && c25) then (.pv (.bool ((mget m7 x10.f_Rec.f_Acc).isSome))) else (.tup [])))] (by cases c24 <;> cases c25 <;> kernel_rfl) (RunR.dyn (Step.gdG ((!c24) && c25) (by kernel_rfl) (by
                    cases c24
                    · cases c25
                      · exact .inl ⟨by kernel_rfl, by kernel_rfl⟩
                      · exact .inr ⟨by kernel_rfl, by kernel_rfl, Step.name (f := eBool) (e := (mget m7 x10.f_Rec.f_Acc).isSome) (c := c26) (by kernel_rfl) hc26⟩
                    · cases c25
                      · exact .inl ⟨by kernel_rfl, by kernel_rfl⟩
                      · exact .inl ⟨by kernel_rfl, by kernel_rfl⟩)) (RunR.puts 1 [(80, (bif ((!c24) && c25 && (!c26)) then (.ptr (.loc 10 0) 2) else (.tup [])))] (by cases c24 <;> cases c25 <;> cases c26 <;> kernel_rfl) (RunR.puts 1 [(81, (bif ((!c24) && c25 && (!c26)) then (.ptr (.loc 10 0) 5) else (.tup [])))] (by cases c24 <;> cases c25 <;> cases c26 <;> kernel_rfl) (RunR.puts 1 [(82, (bif ((!c24) && c25 && (!c26)) then (.pv (.int .i64 x10.f_Rec.f_Customer)) else (.tup [])))] (by cases c24 <;> cases c25 <;> cases c26 <;> kernel_rfl) (RunR.puts 1 [(83, (bif ((!c24) && c25 && (!c26)) then (.pv (.bool (decide (x10.f_Rec.f_Customer > 0)))) else (.tup [])))] (by cases c24 <;> cases c25 <;> cases c26 <;> kernel_rfl) (RunR.dyn (Step.gdG ((!c24) && c25 && (!c26)) (by kernel_rfl) (by
                    cases c24
                    · cases c25
                      · cases c26
                        · exact .inl ⟨by kernel_rfl, by kernel_rfl⟩
                        · exact .inl ⟨by kernel_rfl, by kernel_rfl⟩
                      · cases c26
                        · exact .inr ⟨by kernel_rfl, by kernel_rfl, Step.name (f := eBool) (e := decide (x10.f_Rec.f_Customer > 0)) (c := c27) (by kernel_rfl) hc27⟩
                        · exact .inl ⟨by kernel_rfl, by kernel_rfl⟩
                    · cases c25
                      · cases c26
                        · exact .inl ⟨by kernel_rfl, by kernel_rfl⟩
                        · exact .inl ⟨by kernel_rfl, by kernel_rfl⟩
                      · cases c26
                        · exact .inl ⟨by kernel_rfl, by kernel_rfl⟩
                        · exact .inl ⟨by kernel_rfl, by kernel_rfl⟩)) (RunR.puts 1 [(85, (bif ((!c24) && c25 && (!c26) && c27) then (.mp (.loc 35 0)) else (.tup [])))] (by cases c24 <;> cases c25 <;> cases c26 <;> cases c27 <;> kernel_rfl) (RunR.puts 1 [(86, (bif ((!c24) && c25 && (!c26) && c27) then (.ptr (.loc 10 0) 2) else (.tup [])))] (by cases c24 <;> cases c25 <;> cases c26 <;> cases c27 <;> kernel_rfl) (RunR.puts 1 [(87, (bif ((!c24) && c25 && (!c26) && c27) then (.ptr (.loc 10 0) 5) else (.tup [])))] (by cases c24 <;> cases c25 <;> cases c26 <;> cases c27 <;> kernel_rfl) (RunR.puts 1 [(88, (bif ((!c24) && c25 && (!c26) && c27) then (.pv (.int .i64 x10.f_Rec.f_Customer)) else (.tup [])))] (by cases c24 <;> cases c25 <;> cases c26 <;> cases c27 <;> kernel_rfl) (RunR.dyn (Step.gdG ((!c24) && c25 && (!c26) && c27) (by kernel_rfl) (by
                    cases c24
                    · cases c25
                      · cases c26
                        · cases c27
                          · exact .inl ⟨by kernel_rfl, by kernel_rfl⟩
                          · exact .inl ⟨by kernel_rfl, by kernel_rfl⟩
                        · cases c27
                          · exact .inl ⟨by kernel_rfl, by kernel_rfl⟩
                          · exact .inl ⟨by kernel_rfl, by kernel_rfl⟩
                      · cases c26
                        · cases c27
                          · exact .inl ⟨by kernel_rfl, by kernel_rfl⟩
                          · exact .inr ⟨by kernel_rfl, by kernel_rfl, Step.mlookT (key := .loc 35 0) (f := (eInt .i64)) (g := (eInt .i64)) (l := m9) (kv := x10.f_Rec.f_Customer) (z := (0 : Int)) same1_int (by kernel_rfl) (by kernel_rfl) (by kernel_rfl) (by kernel_rfl) (by kernel_rfl)⟩
                        · cases c27
                          · exact .inl ⟨by kernel_rfl, by kernel_rfl⟩
                          · exact .inl ⟨by kernel_rfl, by kernel_rfl⟩
                    · cases c25
                      · cases c26
                        · cases c27
                          · exact .inl ⟨by kernel_rfl, by kernel_rfl⟩
                          · exact .inl ⟨by kernel_rfl, by kernel_rfl⟩
                        · cases c27
                          · exact .inl ⟨by kernel_rfl, by kernel_rfl⟩
                          · exact .inl ⟨by kernel_rfl, by kernel_rfl⟩
                      · cases c26
                        · cases c27
                          · exact .inl ⟨by kernel_rfl, by kernel_rfl⟩
                          · exact .inl ⟨by kernel_rfl, by kernel_rfl⟩
                        · cases c27
                          · exact .inl ⟨by kernel_rfl, by kernel_rfl⟩
                          · exact .inl ⟨by kernel_rfl, by kernel_rfl⟩)) (RunR.puts 1 [(90, (bif ((!c24) && c25 && (!c26) && c27) then (.pv (.bool (((mget m9 x10.f_Rec.f_Customer).getD (0 : Int)) == 0))) else (.tup [])))] (by cases c24 <;> cases c25 <;> cases c26 <;> cases c27 <;> kernel_rfl) (RunR.puts 1 [(91, (bif ((!c24) && c25 && (!c26)) then (.pv (.bool (c27 && (((mget m9 x10.f_Rec.f_Customer).getD (0 : Int)) == 0)))) else (.tup [])))] (by cases c27 <;> cases c24 <;> cases c25 <;> cases c26 <;> kernel_rfl) (RunR.puts 1 [(92, (bif ((!c24) && c25) then (.pv (.bool (c26 || (c27 && (((mget m9 x10.f_Rec.f_Customer).getD (0 : Int)) == 0))))) else (.tup [])))] (by cases c26 <;> cases c24 <;> cases c25 <;> kernel_rfl) (RunR.puts 2 [(94, .pv (.bool (c24 || (c25 && (c26 || (c27 && (((mget m9 x10.f_Rec.f_Customer).getD (0 : Int)) == 0))))))), (93, (bif !c24 then (.pv (.bool (c25 && (c26 || (c27 && (((mget m9 x10.f_Rec.f_Customer).getD (0 : Int)) == 0)))))) else (.tup [])))] (by cases c25 <;> cases c24 <;> kernel_rfl) (RunR.dyn (Step.name (f := eBool) (e := (c24 || (c25 && (c26 || (c27 && (((mget m9 x10.f_Rec.f_Customer).getD (0 : Int)) == 0)))))) (c := c28) (by kernel_rfl) hc28) (RunR.puts 2 [(97, (bif !c28 then (.pv (.bool (x22.2 == 8))) else (.tup []))), (96, (bif !c28 then (.pv (.int .i64 x22.2)) else (.tup [])))] (by cases c28 <;> kernel_rfl) (RunR.dyn (Step.gdG (!c28) (by kernel_rfl) (by
                    cases c28
                    · exact .inr ⟨by kernel_rfl, by kernel_rfl, Step.name (f := eBool) (e := (x22.2 == 8)) (c := c29) (by kernel_rfl) hc29⟩
                    · exact .inl ⟨by kernel_rfl, by kernel_rfl⟩)) (RunR.puts 4 [(102, (bif ((!c28) && c29) then (.pv (.bool (x10.f_Rec.f_Customer == 0))) else (.tup []))), (101, (bif ((!c28) && c29) then (.pv (.int .i64 x10.f_Rec.f_Customer)) else (.tup []))), (100, (bif ((!c28) && c29) then (.ptr (.loc 10 0) 5) else (.tup []))), (99, (bif ((!c28) && c29) then (.ptr (.loc 10 0) 2) else (.tup [])))] (by cases c28 <;> cases c29 <;> kernel_rfl) (RunR.dyn (Step.gdG ((!c28) && c29) (by kernel_rfl) (by
                    cases c28
                    · cases c29
                      · exact .inl ⟨by kernel_rfl, by kernel_rfl⟩
                      · exact .inr ⟨by kernel_rfl, by kernel_rfl, Step.name (f := eBool) (e := (x10.f_Rec.f_Customer == 0)) (c := c30) (by kernel_rfl) hc30⟩
                    · cases c29
                      · exact .inl ⟨by kernel_rfl, by kernel_rfl⟩
                      · exact .inl ⟨by kernel_rfl, by kernel_rfl⟩)) (RunR.puts 1 [(104, (bif ((!c28) && c29 && (!c30)) then (.mp (.loc 35 0)) else (.tup [])))] (by cases c28 <;> cases c29 <;> cases c30 <;> kernel_rfl) (RunR.puts 1 [(105, (bif ((!c28) && c29 && (!c30)) then (.ptr (.loc 10 0) 2) else (.tup [])))] (by cases c28 <;> cases c29 <;> cases c30 <;> kernel_rfl) (RunR.puts 1 [(106, (bif ((!c28) && c29 && (!c30)) then (.ptr (.loc 10 0) 5) else (.tup [])))] (by cases c28 <;> cases c29 <;> cases c30 <;> kernel_rfl) (RunR.puts 1 [(107, (bif ((!c28) && c29 && (!c30)) then (.pv (.int .i64 x10.f_Rec.f_Customer)) else (.tup [])))] (by cases c28 <;> cases c29 <;> cases c30 <;> kernel_rfl) (RunR.dyn (Step.gdG ((!c28) && c29 && (!c30)) (by kernel_rfl) (by
                    cases c28
                    · cases c29
                      · cases c30
                        · exact .inl ⟨by kernel_rfl, by kernel_rfl⟩
                        · exact .inl ⟨by kernel_rfl, by kernel_rfl⟩
                      · cases c30
                        · exact .inr ⟨by kernel_rfl, by kernel_rfl, Step.mlookT (key := .loc 35 0) (f := (eInt .i64)) (g := (eInt .i64)) (l := m9) (kv := x10.f_Rec.f_Customer) (z := (0 : Int)) same1_int (by kernel_rfl) (by kernel_rfl) (by kernel_rfl) (by kernel_rfl) (by kernel_rfl)⟩
                        · exact .inl ⟨by kernel_rfl, by kernel_rfl⟩
                    · cases c29
                      · cases c30
                        · exact .inl ⟨by kernel_rfl, by kernel_rfl⟩
                        · exact .inl ⟨by kernel_rfl, by kernel_rfl⟩
                      · cases c30
                        · exact .inl ⟨by kernel_rfl, by kernel_rfl⟩
                        · exact .inl ⟨by kernel_rfl, by kernel_rfl⟩)) (RunR.puts 1 [(109, (bif ((!c28) && c29 && (!c30)) then (.pv (.bool (decide (((mget m9 x10.f_Rec.f_Customer).getD (0 : Int)) > 0)))) else (.tup [])))] (by cases c28 <;> cases c29 <;> cases c30 <;> kernel_rfl) (RunR.puts 1 [(110, (bif ((!c28) && c29) then (.pv (.bool (c30 || (decide (((mget m9 x10.f_Rec.f_Customer).getD (0 : Int)) > 0))))) else (.tup [])))] (by cases c30 <;> cases c28 <;> cases c29 <;> kernel_rfl) (RunR.puts 2 [(112, .pv (.bool (c28 || (c29 && (c30 || (decide (((mget m9 x10.f_Rec.f_Customer).getD (0 : Int)) > 0))))))), (111, (bif !c28 then (.pv (.bool (c29 && (c30 || (decide (((mget m9 x10.f_Rec.f_Customer).getD (0 : Int)) > 0)))))) else (.tup [])))] (by cases c29 <;> cases c28 <;> kernel_rfl) ((.nil _))))))))))))))))))))))))))))))))))))) ?_
              refine W.seqCond (t := (c28 || (c29 && (c30 || (decide (((mget m9 x10.f_Rec.f_Customer).getD (0 : Int)) > 0)))))) (by kernel_rfl) h (fun hc h' => ?_) (fun hc h' => ?_)
              · replace h := h'
                refine W.assoc ?_
                refine W.seqOps (RunR.all (by kernel_rfl)) ?_
                refine W.seqKeep rfl ?_
                cases h
                exact W.seqRet ((outw_out ret_ne (fun e => by subst e; exact (outw_out ret_ne (bout_o ret_ne ret_ne' (fun e => by subst e; exact (fin_ret (by kernel_rfl))))))))
              · replace h := h'
                refine W.seqSkip ?_
                refine W.seqOps (RunR.all (by kernel_rfl)) ?_
                refine W.condI (t := (x22.2 == 0)) (by kernel_rfl) h (fun hc h' => ?_) (fun hc h' => ?_)
                · replace h := h'
                  refine W.seqOps (RunR.all (by kernel_rfl)) ?_
                  refine W.ops (RunR.stat 6 (by kernel_rfl) (RunR.dyn (Step.msetT (key := .loc 33 0) (f := (eInt .i64)) (g := T_api_Record.pv) (l := m7) (kv := x10.f_Rec.f_Acc) (vv := (⟨x10.f_Rec.f_Acc, x10.f_Rec.f_Kind, x10.f_Rec.f_Cur, x10.f_Rec.f_Customer, x10.f_Rec.f_Product, x10.f_Rec.f_Partition, x10.f_Rec.f_From, 50000⟩ : T_api_Record)) same1_int (by kernel_rfl) (by kernel_rfl) (by kernel_rfl) (by kernel_rfl) (by kernel_rfl)) ((.nil _)))) ?_
                  cases h
                  exact (outw_in (by (show _ = _); kernel_rfl))
                · replace h := h'
                  cases h
                  exact W.skip ((outw_in (by (show _ = _); kernel_rfl)))
        · subst hp
          obtain ⟨c31, m32, m33, m34⟩ := p
          refine W.assoc ?_
          refine W.seqKeep hsj11 ?_
          replace h := bindS h
          obtain ⟨x35, hx35, h⟩ := h
          refine W.seqOps (RunR.stat 1 (by kernel_rfl) (RunR.cons (tab_cons (on := true) (fun _ => chart_Right_ok hx35) tab_nil) (Step.call0 (g := 16) (caps := []) (v := .pv (.bool x35)) (by kernel_rfl) (by kernel_rfl) (by kernel_rfl) (tab_hit (by kernel_rfl)) (by kernel_rfl)) (RunR.all (by kernel_rfl)))) ?_
          refine W.seqCond (t := !x35) (by kernel_rfl) h (fun hc h' => ?_) (fun hc h' => ?_)
          · replace h := h'
            refine W.assoc ?_
            refine W.seqOps (RunR.all (by kernel_rfl)) ?_
            refine W.seqKeep rfl ?_
            cases h
            exact W.seqRet ((outw_out ret_ne (bout_o ret_ne ret_ne' (fun e => by subst e; exact (fin_ret (by kernel_rfl))))))
          · replace h := h'
            refine W.seqSkip ?_
            refine W.ops (RunR.all (by kernel_rfl)) ?_
            cases h
            exact (outw_in (by (show _ = _); kernel_rfl))
        · subst hp
          exact Option.some.inj h
      · replace h := h'
        cases h
        exact W.seqExit ((outw_out exit_ne (bout_x (by (show _ = _); kernel_rfl))))
  · subst hp
    obtain ⟨c36, m37, m38⟩ := p
    refine W.assoc ?_
    refine W.seqKeep hsj4 ?_
    refine W.seqOps (RunR.stat 2 (by kernel_rfl) (RunR.dyn (Step.lenT (f := T_api_Record.pv) (l := c36.f_Records) (by kernel_rfl)) (RunR.stat 1 (by kernel_rfl) (RunR.dyn (Step.mlenT (key := .loc 33 0) (kk := (.i .i64)) (f := (eInt .i64)) (g := T_api_Record.pv) (l := m37) (by kernel_rfl) (by kernel_rfl)) (RunR.all (by kernel_rfl)))))) ?_
    refine W.seqCond (t := ((c36.f_Records.length : Int) != (m37.length : Int))) (by kernel_rfl) h (fun hc h' => ?_) (fun hc h' => ?_)
    · replace h := h'
      refine W.assoc ?_
      refine W.seqOps (RunR.all (by kernel_rfl)) ?_
      refine W.seqKeep rfl ?_
      cases h
      exact W.seqRet ((fin_ret (by kernel_rfl)))
    · replace h := h'
      refine W.seqSkip ?_
      refine W.assoc ?_
      refine W.seqOps (RunR.stat 2 (by kernel_rfl) (RunR.dyn (Step.lenT (f := T_api_Record.pv) (l := c36.f_Records) (by kernel_rfl)) (RunR.all (by kernel_rfl)))) ?_
      replace h := bindS h
      obtain ⟨j39, hj39, h⟩ := h
      refine W.joinOut (j := j39) (o := r) (fun p σ => σ.tidy [] [] [] [.loc 33 0, .loc 34 0, .loc 5 0] [] = ⟨[], []⟩) ?_ (fun p σj39 hp hsj39 => ?_) (fun p hp => ?_)
      · refine W.blockLoopO (fun q σ => ((σ.forget [1, 5, 6, 7, 240, 241, 242]).killAll []).tidy [] [(1, false), (5, false), (6, false), (7, false), (240, false), (241, false), (242, false)] [(.loc 33 0, false), (.loc 34 0, false), (.loc 5 0, false)] [.loc 24 0, .loc 25 0, .loc 27 0] [] = ⟨[(1, .pv (.int .i32 day2)), (5, .ptr (.loc 5 0) 0), (6, .mp (.loc 33 0)), (7, .mp (.loc 34 0)), (240, .pv (.slice (List.map T_api_Record.pv c36.f_Records))), (241, .pv (.int .i64 (c36.f_Records.length : Int))), (242, .pv (.int .i64 q))], [(.loc 33 0, .map (.i .i64) (List.map (eEnt (eInt .i64) T_api_Record.pv) m37)), (.loc 34 0, .map (.i .i64) (List.map (eEnt (eInt .i64) (eInt .i32)) m38)), (.loc 5 0, .box [.pv (.slice (List.map T_api_Customer.pv c36.f_Customers)), .pv (.slice (List.map T_api_Record.pv c36.f_Records))])]⟩) hj39 ?_ ?_
        · exact (by (show _ = _); kernel_rfl)
        · intro x40 σj39 oj39 hJj39 h
          refine W.keep hJj39 ?_
          refine W.seqOps (RunR.all (by kernel_rfl)) ?_
          refine W.seqCond (t := decide (x40 < (c36.f_Records.length : Int))) (by kernel_rfl) h (fun hc h' => ?_) (fun hc h' => ?_)
          · replace h := h'
            refine W.seqSkip ?_
            refine W.seqPass ?_
            refine W.assoc ?_
            replace h := bindS h
            obtain ⟨x41, hx41, h⟩ := h
            refine W.seqOps (RunR.dyn (Step.idxT (f := T_api_Record.pv) (l := c36.f_Records) (n := x40) (e := x41) (k := .i64) (by kernel_rfl) (by kernel_rfl) hx41 (by kernel_rfl)) (RunR.all (by kernel_rfl))) ?_
            refine W.assoc ?_
            refine W.seqOps (RunR.stat 3 (by kernel_rfl) (RunR.dyn (Step.mlookOkT (key := .loc 33 0) (f := (eInt .i64)) (g := T_api_Record.pv) (l := m37) (kv := x41.f_Acc) (z := ((⟨0, 0, 0, 0, 0, 0, 0, 0⟩ : T_api_Record) : T_api_Record)) same1_int (by kernel_rfl) (by kernel_rfl) (by kernel_rfl) (by kernel_rfl) (by kernel_rfl)) (RunR.all (by kernel_rfl)))) ?_
            refine W.assoc ?_
            replace h := bindS h
            obtain ⟨x42, hx42, h⟩ := h
            refine W.seqOps (RunR.stat 3 (by kernel_rfl) (RunR.cons (tab_cons (on := true) (fun _ => chart_Find_ok hx42) tab_nil) (Step.call0 (g := 29) (caps := []) (v := .tup [.pv (T_api_Record.pv x42.1), .pv (.int .i64 x42.2)]) (by kernel_rfl) (by kernel_rfl) (by kernel_rfl) (tab_hit (by kernel_rfl)) (by kernel_rfl)) (RunR.all (by kernel_rfl)))) ?_
            refine W.assoc ?_
            refine W.assoc ?_
            refine W.seqOps (RunR.stat 3 (by kernel_rfl) (RunR.dyn (Step.mlookOkT (key := .loc 34 0) (f := (eInt .i64)) (g := (eInt .i32)) (l := m38) (kv := x41.f_Acc) (z := (0 : Int)) same1_int (by kernel_rfl) (by kernel_rfl) (by kernel_rfl) (by kernel_rfl) (by kernel_rfl)) (RunR.all (by kernel_rfl)))) ?_
            refine W.assoc ?_
            refine W.seqOps (RunR.all (by kernel_rfl)) ?_
            replace h := bindS h
            obtain ⟨j43, hj43, h⟩ := h
            refine W.join (j := j43) (fun p σ => σ.tidy [] [(1, false), (5, false), (6, false), (7, false), (24, false), (25, false), (26, false), (27, false), (28, false), (240, false), (241, false), (242, false)] [(.loc 24 0, false), (.loc 25 0, false), (.loc 27 0, false), (.loc 33 0, false), (.loc 34 0, false), (.loc 5 0, false)] [] [] = ⟨[(1, .pv (.int .i32 day2)), (5, .ptr (.loc 5 0) 0), (6, .mp (.loc 33 0)), (7, .mp (.loc 34 0)), (24, .ptr (.loc 24 0) 0), (25, .ptr (.loc 25 0) 0), (26, .pv (.bool ((mget m37 x41.f_Acc).isSome))), (27, .ptr (.loc 27 0) 0), (28, .pv (.int .i64 x42.2)), (240, .pv (.slice (List.map T_api_Record.pv c36.f_Records))), (241, .pv (.int .i64 (c36.f_Records.length : Int))), (242, .pv (.int .i64 x40))], [(.loc 24 0, .box [.pv (.int .i64 x41.f_Acc), .pv (.int .i64 x41.f_Kind), .pv (.int .i64 x41.f_Cur), .pv (.int .i64 x41.f_Customer), .pv (.int .i64 x41.f_Product), .pv (.int .i64 x41.f_Partition), .pv (.int .i32 x41.f_From), .pv (.int .i32 x41.f_To)]), (.loc 25 0, .box [.pv (.int .i64 (((mget m37 x41.f_Acc).getD ((⟨0, 0, 0, 0, 0, 0, 0, 0⟩ : T_api_Record) : T_api_Record)).f_Acc)), .pv (.int .i64 (((mget m37 x41.f_Acc).getD ((⟨0, 0, 0, 0, 0, 0, 0, 0⟩ : T_api_Record) : T_api_Record)).f_Kind)), .pv (.int .i64 (((mget m37 x41.f_Acc).getD ((⟨0, 0, 0, 0, 0, 0, 0, 0⟩ : T_api_Record) : T_api_Record)).f_Cur)), .pv (.int .i64 (((mget m37 x41.f_Acc).getD ((⟨0, 0, 0, 0, 0, 0, 0, 0⟩ : T_api_Record) : T_api_Record)).f_Customer)), .pv (.int .i64 (((mget m37 x41.f_Acc).getD ((⟨0, 0, 0, 0, 0, 0, 0, 0⟩ : T_api_Record) : T_api_Record)).f_Product)), .pv (.int .i64 (((mget m37 x41.f_Acc).getD ((⟨0, 0, 0, 0, 0, 0, 0, 0⟩ : T_api_Record) : T_api_Record)).f_Partition)), .pv (.int .i32 (((mget m37 x41.f_Acc).getD ((⟨0, 0, 0, 0, 0, 0, 0, 0⟩ : T_api_Record) : T_api_Record)).f_From)), .pv (.int .i32 p)]), (.loc 27 0, .box [.pv (.int .i64 x42.1.f_Acc), .pv (.int .i64 x42.1.f_Kind), .pv (.int .i64 x42.1.f_Cur), .pv (.int .i64 x42.1.f_Customer), .pv (.int .i64 x42.1.f_Product), .pv (.int .i64 x42.1.f_Partition), .pv (.int .i32 x42.1.f_From), .pv (.int .i32 x42.1.f_To)]), (.loc 33 0, .map (.i .i64) (List.map (eEnt (eInt .i64) T_api_Record.pv) m37)), (.loc 34 0, .map (.i .i64) (List.map (eEnt (eInt .i64) (eInt .i32)) m38)), (.loc 5 0, .box [.pv (.slice (List.map T_api_Customer.pv c36.f_Customers)), .pv (.slice (List.map T_api_Record.pv c36.f_Records))])]⟩) ?_ (fun σj43 hsj43 => ?_)
            · replace h := hj43
              refine W.condI (t := (mget m38 x41.f_Acc).isSome) (by kernel_rfl) h (fun hc h' => ?_) (fun hc h' => ?_)
              · replace h := h'
                refine W.ops (RunR.all (by kernel_rfl)) ?_
                cases h
                exact (normw (by (show _ = _); kernel_rfl))
              · replace h := h'
                cases h
                exact W.skip ((normw (by (show _ = _); kernel_rfl)))
            · refine W.assoc ?_
              refine W.assoc ?_
              refine W.seqKeep hsj43 ?_
              replace h := bindS h
              obtain ⟨c45, hc45, h⟩ := h
              replace h := bindS h
              obtain ⟨c46, hc46, h⟩ := h
              replace h := bindS h
              obtain ⟨c47, hc47, h⟩ := h
              refine W.seqOps (RunR.stat 2 (by kernel_rfl) (RunR.dyn (Step.name (f := eBool) (e := (x42.2 != 0)) (c := c45) (by kernel_rfl) hc45) (RunR.puts 3 [(275, .pv (.bool (c45 || (!((mget m37 x41.f_Acc).isSome))))), (274, (bif !c45 then (.pv (.bool (!((mget m37 x41.f_Acc).isSome)))) else (.tup []))), (273, (bif !c45 then (.pv (.bool ((mget m37 x41.f_Acc).isSome))) else (.tup [])))] (by cases c45 <;> kernel_rfl) (RunR.dyn (Step.name (f := eBool) (e := (c45 || (!((mget m37 x41.f_Acc).isSome)))) (c := c46) (by kernel_rfl) hc46) (RunR.puts 4 [(280, .pv (.bool (c46 || (!(T_api_Record.same x42.1 x41))))), (279, (bif !c46 then (.pv (.bool (!(T_api_Record.same x42.1 x41)))) else (.tup []))), (278, (bif !c46 then (.pv (T_api_Record.pv x41)) else (.tup []))), (277, (bif !c46 then (.pv (T_api_Record.pv x42.1)) else (.tup [])))] (by cases c46 <;> kernel_rfl) (RunR.dyn (Step.name (f := eBool) (e := (c46 || (!(T_api_Record.same x42.1 x41)))) (c := c47) (by kernel_rfl) hc47) (RunR.puts 4 [(285, .pv (.bool (c47 || (!(T_api_Record.same x42.1 (⟨((mget m37 x41.f_Acc).getD ((⟨0, 0, 0, 0, 0, 0, 0, 0⟩ : T_api_Record) : T_api_Record)).f_Acc, ((mget m37 x41.f_Acc).getD ((⟨0, 0, 0, 0, 0, 0, 0, 0⟩ : T_api_Record) : T_api_Record)).f_Kind, ((mget m37 x41.f_Acc).getD ((⟨0, 0, 0, 0, 0, 0, 0, 0⟩ : T_api_Record) : T_api_Record)).f_Cur, ((mget m37 x41.f_Acc).getD ((⟨0, 0, 0, 0, 0, 0, 0, 0⟩ : T_api_Record) : T_api_Record)).f_Customer, ((mget m37 x41.f_Acc).getD ((⟨0, 0, 0, 0, 0, 0, 0, 0⟩ : T_api_Record) : T_api_Record)).f_Product, ((mget m37 x41.f_Acc).getD ((⟨0, 0, 0, 0, 0, 0, 0, 0⟩ : T_api_Record) : T_api_Record)).f_Partition, ((mget m37 x41.f_Acc).getD ((⟨0, 0, 0, 0, 0, 0, 0, 0⟩ : T_api_Record) : T_api_Record)).f_From, j43⟩ : T_api_Record)))))), (284, (bif !c47 then (.pv (.bool (!(T_api_Record.same x42.1 (⟨((mget m37 x41.f_Acc).getD ((⟨0, 0, 0, 0, 0, 0, 0, 0⟩ : T_api_Record) : T_api_Record)).f_Acc, ((mget m37 x41.f_Acc).getD ((⟨0, 0, 0, 0, 0, 0, 0, 0⟩ : T_api_Record) : T_api_Record)).f_Kind, ((mget m37 x41.f_Acc).getD ((⟨0, 0, 0, 0, 0, 0, 0, 0⟩ : T_api_Record) : T_api_Record)).f_Cur, ((mget m37 x41.f_Acc).getD ((⟨0, 0, 0, 0, 0, 0, 0, 0⟩ : T_api_Record) : T_api_Record)).f_Customer, ((mget m37 x41.f_Acc).getD ((⟨0, 0, 0, 0, 0, 0, 0, 0⟩ : T_api_Record) : T_api_Record)).f_Product, ((mget m37 x41.f_Acc).getD ((⟨0, 0, 0, 0, 0, 0, 0, 0⟩ : T_api_Record) : T_api_Record)).f_Partition, ((mget m37 x41.f_Acc).getD ((⟨0, 0, 0, 0, 0, 0, 0, 0⟩ : T_api_Record) : T_api_Record)).f_From, j43⟩ : T_api_Record))))) else (.tup []))), (283, (bif !c47 then (.pv (.agg [.int .i64 (((mget m37 x41.f_Acc).getD ((⟨0, 0, 0, 0, 0, 0, 0, 0⟩ : T_api_Record) : T_api_Record)).f_Acc), .int .i64 (((mget m37 x41.f_Acc).getD ((⟨0, 0, 0, 0, 0, 0, 0, 0⟩ : T_api_Record) : T_api_Record)).f_Kind), .int .i64 (((mget m37 x41.f_Acc).getD ((⟨0, 0, 0, 0, 0, 0, 0, 0⟩ : T_api_Record) : T_api_Record)).f_Cur), .int .i64 (((mget m37 x41.f_Acc).getD ((⟨0, 0, 0, 0, 0, 0, 0, 0⟩ : T_api_Record) : T_api_Record)).f_Customer), .int .i64 (((mget m37 x41.f_Acc).getD ((⟨0, 0, 0, 0, 0, 0, 0, 0⟩ : T_api_Record) : T_api_Record)).f_Product), .int .i64 (((mget m37 x41.f_Acc).getD ((⟨0, 0, 0, 0, 0, 0, 0, 0⟩ : T_api_Record) : T_api_Record)).f_Partition), .int .i32 (((mget m37 x41.f_Acc).getD ((⟨0, 0, 0, 0, 0, 0, 0, 0⟩ : T_api_Record) : T_api_Record)).f_From), .int .i32 j43])) else (.tup []))), (282, (bif !c47 then (.pv (T_api_Record.pv x42.1)) else (.tup [])))] (by cases c47 <;> kernel_rfl) ((.nil _))))))))) ?_
              refine W.seqCond (t := (c47 || (!(T_api_Record.same x42.1 (⟨((mget m37 x41.f_Acc).getD ((⟨0, 0, 0, 0, 0, 0, 0, 0⟩ : T_api_Record) : T_api_Record)).f_Acc, ((mget m37 x41.f_Acc).getD ((⟨0, 0, 0, 0, 0, 0, 0, 0⟩ : T_api_Record) : T_api_Record)).f_Kind, ((mget m37 x41.f_Acc).getD ((⟨0, 0, 0, 0, 0, 0, 0, 0⟩ : T_api_Record) : T_api_Record)).f_Cur, ((mget m37 x41.f_Acc).getD ((⟨0, 0, 0, 0, 0, 0, 0, 0⟩ : T_api_Record) : T_api_Record)).f_Customer, ((mget m37 x41.f_Acc).getD ((⟨0, 0, 0, 0, 0, 0, 0, 0⟩ : T_api_Record) : T_api_Record)).f_Product, ((mget m37 x41.f_Acc).getD ((⟨0, 0, 0, 0, 0, 0, 0, 0⟩ : T_api_Record) : T_api_Record)).f_Partition, ((mget m37 x41.f_Acc).getD ((⟨0, 0, 0, 0, 0, 0, 0, 0⟩ : T_api_Record) : T_api_Record)).f_From, j43⟩ : T_api_Record))))) (by kernel_rfl) h (fun hc h' => ?_) (fun hc h' => ?_)
              · replace h := h'
                refine W.assoc ?_
                refine W.seqOps (RunR.all (by kernel_rfl)) ?_
                refine W.seqKeep rfl ?_
                cases h
                exact W.seqRet ((outw_out ret_ne (bout_o ret_ne ret_ne' (fun e => by subst e; exact (fin_ret (by kernel_rfl))))))
              · replace h := h'
                refine W.seqSkip ?_
                refine W.assoc ?_
                replace h := bindS h
                obtain ⟨x48, hx48, h⟩ := h
                refine W.seqOps (RunR.stat 4 (by kernel_rfl) (RunR.cons (tab_cons (on := true) (fun _ => chart_Is_ok hx48) tab_nil) (Step.call0 (g := 30) (caps := []) (v := .tup [.pv (.bool x48.1), .pv (.int .i64 x48.2)]) (by kernel_rfl) (by kernel_rfl) (by kernel_rfl) (tab_hit (by kernel_rfl)) (by kernel_rfl)) (RunR.all (by kernel_rfl)))) ?_
                refine W.assoc ?_
                replace h := bindS h
                obtain ⟨c49, hc49, h⟩ := h
                replace h := bindS h
                obtain ⟨c50, hc50, h⟩ := h
                replace h := bindS h
                obtain ⟨c51, hc51, h⟩ := h
                replace h := bindS h
                obtain ⟨c52, hc52, h⟩ := h
                refine W.seqOps (RunR.stat 2 (by kernel_rfl) (RunR.dyn (Step.name (f := eBool) (e := (x48.2 != 0)) (c := c49) (by kernel_rfl) hc49) (RunR.puts 3 [(299, .pv (.bool (c49 && (x48.2 != 11)))), (298, (bif c49 then (.pv (.bool (x48.2 != 11))) else (.tup []))), (297, (bif c49 then (.pv (.int .i64 x48.2)) else (.tup [])))] (by cases c49 <;> kernel_rfl) (RunR.dyn (Step.name (f := eBool) (e := (c49 && (x48.2 != 11))) (c := c50) (by kernel_rfl) hc50) (RunR.puts 2 [(302, (bif !c50 then (.pv (.bool (x48.2 == 0))) else (.tup []))), (301, (bif !c50 then (.pv (.int .i64 x48.2)) else (.tup [])))] (by cases c50 <;> kernel_rfl) (RunR.dyn (Step.gdG (!c50) (by kernel_rfl) (by
                      cases c50
                      · exact .inr ⟨by kernel_rfl, by kernel_rfl, Step.name (f := eBool) (e := (x48.2 == 0)) (c := c51) (by kernel_rfl) hc51⟩
                      · exact .inl ⟨by kernel_rfl, by kernel_rfl⟩)) (RunR.puts 5 [(308, (bif ((!c50) && c51) then (.pv (.bool (decide (day2 ≥ x42.1.f_From)))) else (.tup []))), (307, (bif ((!c50) && c51) then (.pv (.int .i32 x42.1.f_From)) else (.tup []))), (306, (bif ((!c50) && c51) then (.ptr (.loc 27 0) 6) else (.tup []))), (305, (bif ((!c50) && c51) then (.pv (.int .i32 day2)) else (.tup []))), (304, (bif ((!c50) && c51) then (.pv (.bool x48.1)) else (.tup [])))] (by cases c50 <;> cases c51 <;> kernel_rfl) (RunR.dyn (Step.gdG ((!c50) && c51) (by kernel_rfl) (by
                      cases c50
                      · cases c51
                        · exact .inl ⟨by kernel_rfl, by kernel_rfl⟩
                        · exact .inr ⟨by kernel_rfl, by kernel_rfl, Step.name (f := eBool) (e := decide (day2 ≥ x42.1.f_From)) (c := c52) (by kernel_rfl) hc52⟩
                      · cases c51
                        · exact .inl ⟨by kernel_rfl, by kernel_rfl⟩
                        · exact .inl ⟨by kernel_rfl, by kernel_rfl⟩)) (RunR.puts 1 [(310, (bif ((!c50) && c51 && c52) then (.pv (.int .i32 day2)) else (.tup [])))] (by cases c50 <;> cases c51 <;> cases c52 <;> kernel_rfl) (RunR.puts 1 [(311, (bif ((!c50) && c51 && c52) then (.ptr (.loc 27 0) 7) else (.tup [])))] (by cases c50 <;> cases c51 <;> cases c52 <;> kernel_rfl) (RunR.puts 1 [(312, (bif ((!c50) && c51 && c52) then (.pv (.int .i32 x42.1.f_To)) else (.tup [])))] (by cases c50 <;> cases c51 <;> cases c52 <;> kernel_rfl) (RunR.puts 1 [(313, (bif ((!c50) && c51 && c52) then (.pv (.bool (decide (day2 ≤ x42.1.f_To)))) else (.tup [])))] (by cases c50 <;> cases c51 <;> cases c52 <;> kernel_rfl) (RunR.puts 1 [(314, (bif ((!c50) && c51) then (.pv (.bool (c52 && (decide (day2 ≤ x42.1.f_To))))) else (.tup [])))] (by cases c52 <;> cases c50 <;> cases c51 <;> kernel_rfl) (RunR.puts 3 [(317, .pv (.bool (c50 || (c51 && (!(x48.1 == (c52 && (decide (day2 ≤ x42.1.f_To))))))))), (316, (bif !c50 then (.pv (.bool (c51 && (!(x48.1 == (c52 && (decide (day2 ≤ x42.1.f_To)))))))) else (.tup []))), (315, (bif ((!c50) && c51) then (.pv (.bool (!(x48.1 == (c52 && (decide (day2 ≤ x42.1.f_To))))))) else (.tup [])))] (by cases c50 <;> cases c51 <;> kernel_rfl) ((.nil _)))))))))))))))) ?_
                refine W.seqCond (t := (c50 || (c51 && (!(x48.1 == (c52 && (decide (day2 ≤ x42.1.f_To)))))))) (by kernel_rfl) h (fun hc h' => ?_) (fun hc h' => ?_)
                · replace h := h'
                  refine W.assoc ?_
                  refine W.seqOps (RunR.all (by kernel_rfl)) ?_
                  refine W.seqKeep rfl ?_
                  cases h
                  exact W.seqRet ((outw_out ret_ne (bout_o ret_ne ret_ne' (fun e => by subst e; exact (fin_ret (by kernel_rfl))))))
                · replace h := h'
                  refine W.seqSkip ?_
                  refine W.ops (RunR.all (by kernel_rfl)) ?_
                  cases h
                  exact (outw_in (by (show _ = _); kernel_rfl))
          · replace h := h'
            cases h
            exact W.seqExit ((outw_out exit_ne (bout_x (by (show _ = _); kernel_rfl))))
      · subst hp
        obtain ⟨⟩ := p
        refine W.seqKeep hsj39 ?_
        replace h := bindS h
        obtain ⟨x53, hx53, h⟩ := h
        refine W.seqOps (RunR.cons (tab_cons (on := true) (fun _ => cashbooklaw18_alive_ok hx53) tab_nil) (Step.call0 (g := 18) (caps := []) (v := .pv (.bool x53)) (by kernel_rfl) (by kernel_rfl) (by kernel_rfl) (tab_hit (by kernel_rfl)) (by kernel_rfl)) (RunR.all (by kernel_rfl))) ?_
        refine W.keep rfl ?_
        cases h
        exact W.ret ((fin_ret (by kernel_rfl)))
      · subst hp
        exact Option.some.inj h
  · subst hp
    exact Option.some.inj h
end Go.Av.G
