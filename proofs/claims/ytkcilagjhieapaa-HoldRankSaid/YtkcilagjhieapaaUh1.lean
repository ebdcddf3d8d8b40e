/- What functions of the program compute, in plain words, and that they do: printed by a program of ours. -/
import Derived.Test.YtkcilagjhieapaaUh0
set_option linter.unusedVariables false
set_option linter.unusedSimpArgs false
set_option maxRecDepth 100000
set_option maxHeartbeats 8000000
namespace Go.Av.G
open Go Go.Av Go.Proofs
def pslices_symMergeCmpFunc_Holdr0 : List GOp := [⟨(some 25), none, .mov (.tmp 2)⟩, ⟨(some 26), none, .mov (.tmp 1)⟩, ⟨(some 27), none, .bin false .sub (.tmp 25) (.tmp 26)⟩, ⟨(some 28), none, .bin false .eql (.tmp 27) (.cst (.int .i64 1))⟩]
def pslices_symMergeCmpFunc_Holdr1 : List GOp := [⟨(some 29), none, .mov (.tmp 2)⟩, ⟨(some 10), none, .mov (.tmp 29)⟩]
def pslices_symMergeCmpFunc_Holdr2 : List GOp := [⟨(some 30), none, .mov (.tmp 3)⟩, ⟨(some 11), none, .mov (.tmp 30)⟩]
def pslices_symMergeCmpFunc_Holdr3 : List GOp := [⟨(some 31), none, .mov (.tmp 10)⟩, ⟨(some 32), none, .mov (.tmp 11)⟩, ⟨(some 33), none, .bin false .lss (.tmp 31) (.tmp 32)⟩]
def pslices_symMergeCmpFunc_Holdr4 : List GOp := [⟨(some 34), none, .mov (.tmp 10)⟩, ⟨(some 35), none, .mov (.tmp 11)⟩, ⟨(some 36), none, .bin false .add (.tmp 34) (.tmp 35)⟩, ⟨(some 37), none, .conv .u64 (.tmp 36)⟩, ⟨(some 38), none, .bin false .shr (.tmp 37) (.cst (.int .u64 1))⟩, ⟨(some 39), none, .conv .i64 (.tmp 38)⟩, ⟨(some 12), none, .mov (.tmp 39)⟩]
def pslices_symMergeCmpFunc_Holdr5 : List GOp := [⟨(some 40), none, .mov (.tmp 4)⟩, ⟨(some 41), none, .mov (.tmp 0)⟩, ⟨(some 42), none, .mov (.tmp 12)⟩, ⟨(some 43), none, .idx 9 (.tmp 41) (.tmp 42)⟩, ⟨(some 44), none, .load true 9 (.tmp 43)⟩, ⟨(some 45), none, .mov (.tmp 0)⟩, ⟨(some 46), none, .mov (.tmp 1)⟩, ⟨(some 47), none, .idx 9 (.tmp 45) (.tmp 46)⟩, ⟨(some 48), none, .load true 9 (.tmp 47)⟩, ⟨(some 49), none, .call 0 0 (.tmp 40) [(.tmp 44), (.tmp 48)] [] []⟩, ⟨(some 50), none, .bin false .lss (.tmp 49) (.cst (.int .i64 0))⟩]
def pslices_symMergeCmpFunc_Holdr6 : List GOp := [⟨(some 51), none, .mov (.tmp 12)⟩, ⟨(some 52), none, .bin false .add (.tmp 51) (.cst (.int .i64 1))⟩, ⟨(some 10), none, .mov (.tmp 52)⟩]
def pslices_symMergeCmpFunc_Holdr7 : List GOp := [⟨(some 53), none, .mov (.tmp 12)⟩, ⟨(some 11), none, .mov (.tmp 53)⟩]
def pslices_symMergeCmpFunc_Holdl8 : AC := (.keep [] [(0, false), (1, false), (4, false), (10, false), (11, false)] [(.ext 0, false)] [] [] (.seq (.seq (.ops pslices_symMergeCmpFunc_Holdr3) (.cond (.tmp 33) .skip (.exit 0))) (.pass 1 (.seq (.ops pslices_symMergeCmpFunc_Holdr4) (.seq (.draw [] pslices_symMergeCmpFunc_Holdr5) (.cond (.tmp 50) (.ops pslices_symMergeCmpFunc_Holdr6) (.ops pslices_symMergeCmpFunc_Holdr7)))))))
def pslices_symMergeCmpFunc_Holdr9 : List GOp := [⟨(some 54), none, .mov (.tmp 1)⟩, ⟨(some 13), none, .mov (.tmp 54)⟩]
def pslices_symMergeCmpFunc_Holdr10 : List GOp := [⟨(some 55), none, .mov (.tmp 13)⟩, ⟨(some 56), none, .mov (.tmp 10)⟩, ⟨(some 57), none, .bin false .sub (.tmp 56) (.cst (.int .i64 1))⟩, ⟨(some 58), none, .bin false .lss (.tmp 55) (.tmp 57)⟩]
def pslices_symMergeCmpFunc_Holdr11 : List GOp := [⟨(some 61), none, .mov (.tmp 0)⟩, ⟨(some 62), none, .mov (.tmp 13)⟩, ⟨(some 63), none, .mov (.tmp 0)⟩, ⟨(some 64), none, .mov (.tmp 13)⟩, ⟨(some 65), none, .bin false .add (.tmp 64) (.cst (.int .i64 1))⟩, ⟨(some 66), none, .mov (.tmp 0)⟩, ⟨(some 67), none, .mov (.tmp 13)⟩, ⟨(some 68), none, .bin false .add (.tmp 67) (.cst (.int .i64 1))⟩, ⟨(some 69), none, .idx 9 (.tmp 66) (.tmp 68)⟩, ⟨(some 70), none, .load true 9 (.tmp 69)⟩, ⟨(some 71), none, .mov (.tmp 0)⟩, ⟨(some 72), none, .mov (.tmp 13)⟩, ⟨(some 73), none, .idx 9 (.tmp 71) (.tmp 72)⟩, ⟨(some 74), none, .load true 9 (.tmp 73)⟩, ⟨(some 75), none, .idx 9 (.tmp 61) (.tmp 62)⟩, ⟨none, none, .store 9 (.tmp 75) (.tmp 70)⟩, ⟨(some 76), none, .idx 9 (.tmp 63) (.tmp 65)⟩, ⟨none, none, .store 9 (.tmp 76) (.tmp 74)⟩]
def pslices_symMergeCmpFunc_Holdr12 : List GOp := [⟨(some 59), none, .mov (.tmp 13)⟩, ⟨(some 60), none, .bin false .add (.tmp 59) (.cst (.int .i64 1))⟩, ⟨(some 13), none, .mov (.tmp 60)⟩]
def pslices_symMergeCmpFunc_Holdl13 : AC := (.keep [] [(0, false), (10, false), (13, false)] [(.ext 0, false)] [] [] (.seq (.seq (.ops pslices_symMergeCmpFunc_Holdr10) (.cond (.tmp 58) .skip (.exit 2))) (.seq (.pass 3 (.draw [] pslices_symMergeCmpFunc_Holdr11)) (.ops pslices_symMergeCmpFunc_Holdr12))))
def pslices_symMergeCmpFunc_Holdr14 : List GOp := [⟨(some 77), none, .mov (.tmp 3)⟩, ⟨(some 78), none, .mov (.tmp 2)⟩, ⟨(some 79), none, .bin false .sub (.tmp 77) (.tmp 78)⟩, ⟨(some 80), none, .bin false .eql (.tmp 79) (.cst (.int .i64 1))⟩]
def pslices_symMergeCmpFunc_Holdr15 : List GOp := [⟨(some 81), none, .mov (.tmp 1)⟩, ⟨(some 14), none, .mov (.tmp 81)⟩]
def pslices_symMergeCmpFunc_Holdr16 : List GOp := [⟨(some 82), none, .mov (.tmp 2)⟩, ⟨(some 15), none, .mov (.tmp 82)⟩]
def pslices_symMergeCmpFunc_Holdr17 : List GOp := [⟨(some 83), none, .mov (.tmp 14)⟩, ⟨(some 84), none, .mov (.tmp 15)⟩, ⟨(some 85), none, .bin false .lss (.tmp 83) (.tmp 84)⟩]
def pslices_symMergeCmpFunc_Holdr18 : List GOp := [⟨(some 86), none, .mov (.tmp 14)⟩, ⟨(some 87), none, .mov (.tmp 15)⟩, ⟨(some 88), none, .bin false .add (.tmp 86) (.tmp 87)⟩, ⟨(some 89), none, .conv .u64 (.tmp 88)⟩, ⟨(some 90), none, .bin false .shr (.tmp 89) (.cst (.int .u64 1))⟩, ⟨(some 91), none, .conv .i64 (.tmp 90)⟩, ⟨(some 16), none, .mov (.tmp 91)⟩]
def pslices_symMergeCmpFunc_Holdr19 : List GOp := [⟨(some 92), none, .mov (.tmp 4)⟩, ⟨(some 93), none, .mov (.tmp 0)⟩, ⟨(some 94), none, .mov (.tmp 2)⟩, ⟨(some 95), none, .idx 9 (.tmp 93) (.tmp 94)⟩, ⟨(some 96), none, .load true 9 (.tmp 95)⟩, ⟨(some 97), none, .mov (.tmp 0)⟩, ⟨(some 98), none, .mov (.tmp 16)⟩, ⟨(some 99), none, .idx 9 (.tmp 97) (.tmp 98)⟩, ⟨(some 100), none, .load true 9 (.tmp 99)⟩, ⟨(some 101), none, .call 0 0 (.tmp 92) [(.tmp 96), (.tmp 100)] [] []⟩, ⟨(some 102), none, .bin false .lss (.tmp 101) (.cst (.int .i64 0))⟩, ⟨(some 103), none, .un .not (.tmp 102)⟩]
def pslices_symMergeCmpFunc_Holdr20 : List GOp := [⟨(some 104), none, .mov (.tmp 16)⟩, ⟨(some 105), none, .bin false .add (.tmp 104) (.cst (.int .i64 1))⟩, ⟨(some 14), none, .mov (.tmp 105)⟩]
def pslices_symMergeCmpFunc_Holdr21 : List GOp := [⟨(some 106), none, .mov (.tmp 16)⟩, ⟨(some 15), none, .mov (.tmp 106)⟩]
def pslices_symMergeCmpFunc_Holdl22 : AC := (.keep [] [(0, false), (2, false), (4, false), (14, false), (15, false)] [(.ext 0, false)] [] [] (.seq (.seq (.ops pslices_symMergeCmpFunc_Holdr17) (.cond (.tmp 85) .skip (.exit 4))) (.pass 5 (.seq (.ops pslices_symMergeCmpFunc_Holdr18) (.seq (.draw [] pslices_symMergeCmpFunc_Holdr19) (.cond (.tmp 103) (.ops pslices_symMergeCmpFunc_Holdr20) (.ops pslices_symMergeCmpFunc_Holdr21)))))))
def pslices_symMergeCmpFunc_Holdr23 : List GOp := [⟨(some 107), none, .mov (.tmp 2)⟩, ⟨(some 17), none, .mov (.tmp 107)⟩]
def pslices_symMergeCmpFunc_Holdr24 : List GOp := [⟨(some 108), none, .mov (.tmp 17)⟩, ⟨(some 109), none, .mov (.tmp 14)⟩, ⟨(some 110), none, .bin false .gtr (.tmp 108) (.tmp 109)⟩]
def pslices_symMergeCmpFunc_Holdr25 : List GOp := [⟨(some 113), none, .mov (.tmp 0)⟩, ⟨(some 114), none, .mov (.tmp 17)⟩, ⟨(some 115), none, .mov (.tmp 0)⟩, ⟨(some 116), none, .mov (.tmp 17)⟩, ⟨(some 117), none, .bin false .sub (.tmp 116) (.cst (.int .i64 1))⟩, ⟨(some 118), none, .mov (.tmp 0)⟩, ⟨(some 119), none, .mov (.tmp 17)⟩, ⟨(some 120), none, .bin false .sub (.tmp 119) (.cst (.int .i64 1))⟩, ⟨(some 121), none, .idx 9 (.tmp 118) (.tmp 120)⟩, ⟨(some 122), none, .load true 9 (.tmp 121)⟩, ⟨(some 123), none, .mov (.tmp 0)⟩, ⟨(some 124), none, .mov (.tmp 17)⟩, ⟨(some 125), none, .idx 9 (.tmp 123) (.tmp 124)⟩, ⟨(some 126), none, .load true 9 (.tmp 125)⟩, ⟨(some 127), none, .idx 9 (.tmp 113) (.tmp 114)⟩, ⟨none, none, .store 9 (.tmp 127) (.tmp 122)⟩, ⟨(some 128), none, .idx 9 (.tmp 115) (.tmp 117)⟩, ⟨none, none, .store 9 (.tmp 128) (.tmp 126)⟩]
def pslices_symMergeCmpFunc_Holdr26 : List GOp := [⟨(some 111), none, .mov (.tmp 17)⟩, ⟨(some 112), none, .bin false .sub (.tmp 111) (.cst (.int .i64 1))⟩, ⟨(some 17), none, .mov (.tmp 112)⟩]
def pslices_symMergeCmpFunc_Holdl27 : AC := (.keep [] [(0, false), (14, false), (17, false)] [(.ext 0, false)] [] [] (.seq (.seq (.ops pslices_symMergeCmpFunc_Holdr24) (.cond (.tmp 110) .skip (.exit 6))) (.seq (.pass 7 (.draw [] pslices_symMergeCmpFunc_Holdr25)) (.ops pslices_symMergeCmpFunc_Holdr26))))
def pslices_symMergeCmpFunc_Holdr28 : List GOp := [⟨(some 129), none, .mov (.tmp 1)⟩, ⟨(some 130), none, .mov (.tmp 3)⟩, ⟨(some 131), none, .bin false .add (.tmp 129) (.tmp 130)⟩, ⟨(some 132), none, .conv .u64 (.tmp 131)⟩, ⟨(some 133), none, .bin false .shr (.tmp 132) (.cst (.int .u64 1))⟩, ⟨(some 134), none, .conv .i64 (.tmp 133)⟩, ⟨(some 18), none, .mov (.tmp 134)⟩]
def pslices_symMergeCmpFunc_Holdr29 : List GOp := [⟨(some 135), none, .mov (.tmp 18)⟩, ⟨(some 136), none, .mov (.tmp 2)⟩, ⟨(some 137), none, .bin false .add (.tmp 135) (.tmp 136)⟩, ⟨(some 19), none, .mov (.tmp 137)⟩]
def pslices_symMergeCmpFunc_Holdr30 : List GOp := [⟨(some 20), none, .mov (.cst (.int .i64 0))⟩, ⟨(some 21), none, .mov (.cst (.int .i64 0))⟩]
def pslices_symMergeCmpFunc_Holdr31 : List GOp := [⟨(some 138), none, .mov (.tmp 2)⟩, ⟨(some 139), none, .mov (.tmp 18)⟩, ⟨(some 140), none, .bin false .gtr (.tmp 138) (.tmp 139)⟩]
def pslices_symMergeCmpFunc_Holdr32 : List GOp := [⟨(some 141), none, .mov (.tmp 19)⟩, ⟨(some 142), none, .mov (.tmp 3)⟩, ⟨(some 143), none, .bin false .sub (.tmp 141) (.tmp 142)⟩, ⟨(some 20), none, .mov (.tmp 143)⟩]
def pslices_symMergeCmpFunc_Holdr33 : List GOp := [⟨(some 144), none, .mov (.tmp 18)⟩, ⟨(some 21), none, .mov (.tmp 144)⟩]
def pslices_symMergeCmpFunc_Holdr34 : List GOp := [⟨(some 145), none, .mov (.tmp 1)⟩, ⟨(some 20), none, .mov (.tmp 145)⟩]
def pslices_symMergeCmpFunc_Holdr35 : List GOp := [⟨(some 146), none, .mov (.tmp 2)⟩, ⟨(some 21), none, .mov (.tmp 146)⟩]
def pslices_symMergeCmpFunc_Holdr36 : List GOp := [⟨(some 147), none, .mov (.tmp 19)⟩, ⟨(some 148), none, .bin false .sub (.tmp 147) (.cst (.int .i64 1))⟩, ⟨(some 22), none, .mov (.tmp 148)⟩]
def pslices_symMergeCmpFunc_Holdr37 : List GOp := [⟨(some 149), none, .mov (.tmp 20)⟩, ⟨(some 150), none, .mov (.tmp 21)⟩, ⟨(some 151), none, .bin false .lss (.tmp 149) (.tmp 150)⟩]
def pslices_symMergeCmpFunc_Holdr38 : List GOp := [⟨(some 152), none, .mov (.tmp 20)⟩, ⟨(some 153), none, .mov (.tmp 21)⟩, ⟨(some 154), none, .bin false .add (.tmp 152) (.tmp 153)⟩, ⟨(some 155), none, .conv .u64 (.tmp 154)⟩, ⟨(some 156), none, .bin false .shr (.tmp 155) (.cst (.int .u64 1))⟩, ⟨(some 157), none, .conv .i64 (.tmp 156)⟩, ⟨(some 23), none, .mov (.tmp 157)⟩]
def pslices_symMergeCmpFunc_Holdr39 : List GOp := [⟨(some 158), none, .mov (.tmp 4)⟩, ⟨(some 159), none, .mov (.tmp 0)⟩, ⟨(some 160), none, .mov (.tmp 22)⟩, ⟨(some 161), none, .mov (.tmp 23)⟩, ⟨(some 162), none, .bin false .sub (.tmp 160) (.tmp 161)⟩, ⟨(some 163), none, .idx 9 (.tmp 159) (.tmp 162)⟩, ⟨(some 164), none, .load true 9 (.tmp 163)⟩, ⟨(some 165), none, .mov (.tmp 0)⟩, ⟨(some 166), none, .mov (.tmp 23)⟩, ⟨(some 167), none, .idx 9 (.tmp 165) (.tmp 166)⟩, ⟨(some 168), none, .load true 9 (.tmp 167)⟩, ⟨(some 169), none, .call 0 0 (.tmp 158) [(.tmp 164), (.tmp 168)] [] []⟩, ⟨(some 170), none, .bin false .lss (.tmp 169) (.cst (.int .i64 0))⟩, ⟨(some 171), none, .un .not (.tmp 170)⟩]
def pslices_symMergeCmpFunc_Holdr40 : List GOp := [⟨(some 172), none, .mov (.tmp 23)⟩, ⟨(some 173), none, .bin false .add (.tmp 172) (.cst (.int .i64 1))⟩, ⟨(some 20), none, .mov (.tmp 173)⟩]
def pslices_symMergeCmpFunc_Holdr41 : List GOp := [⟨(some 174), none, .mov (.tmp 23)⟩, ⟨(some 21), none, .mov (.tmp 174)⟩]
def pslices_symMergeCmpFunc_Holdl42 : AC := (.keep [] [(0, false), (1, false), (2, false), (3, false), (4, false), (18, false), (19, false), (20, false), (21, false), (22, false)] [(.ext 0, false)] [] [] (.seq (.seq (.ops pslices_symMergeCmpFunc_Holdr37) (.cond (.tmp 151) .skip (.exit 8))) (.pass 9 (.seq (.ops pslices_symMergeCmpFunc_Holdr38) (.seq (.draw [] pslices_symMergeCmpFunc_Holdr39) (.cond (.tmp 171) (.ops pslices_symMergeCmpFunc_Holdr40) (.ops pslices_symMergeCmpFunc_Holdr41)))))))
def pslices_symMergeCmpFunc_Holdr43 : List GOp := [⟨(some 175), none, .mov (.tmp 19)⟩, ⟨(some 176), none, .mov (.tmp 20)⟩, ⟨(some 177), none, .bin false .sub (.tmp 175) (.tmp 176)⟩, ⟨(some 24), none, .mov (.tmp 177)⟩]
def pslices_symMergeCmpFunc_Holdr44 : List GOp := [⟨(some 178), none, .mov (.tmp 20)⟩, ⟨(some 179), none, .mov (.tmp 2)⟩, ⟨(some 180), none, .bin false .lss (.tmp 178) (.tmp 179)⟩, ⟨(some 181), none, .mov (.tmp 180)⟩, ⟨(some 182), (some (181, true)), .mov (.tmp 2)⟩, ⟨(some 183), (some (181, true)), .mov (.tmp 24)⟩, ⟨(some 184), (some (181, true)), .bin false .lss (.tmp 182) (.tmp 183)⟩, ⟨(some 185), none, .pick (.tmp 181) (.tmp 184) (.cst (.bool false))⟩]
def pslices_symMergeCmpFunc_Holdr45 : List GOp := [⟨(some 186), none, .mov (.tmp 0)⟩, ⟨(some 187), none, .mov (.tmp 20)⟩, ⟨(some 188), none, .mov (.tmp 2)⟩, ⟨(some 189), none, .mov (.tmp 24)⟩, ⟨(some 190), none, .mov (.tmp 4)⟩, ⟨(some 191), none, .call 0 2 (.cst (.fn 126)) [(.tmp 186), (.tmp 187), (.tmp 188), (.tmp 189), (.tmp 190)] [] [.ext 0]⟩]
def pslices_symMergeCmpFunc_Holdr46 : List GOp := [⟨(some 192), none, .mov (.tmp 1)⟩, ⟨(some 193), none, .mov (.tmp 20)⟩, ⟨(some 194), none, .bin false .lss (.tmp 192) (.tmp 193)⟩, ⟨(some 195), none, .mov (.tmp 194)⟩, ⟨(some 196), (some (195, true)), .mov (.tmp 20)⟩, ⟨(some 197), (some (195, true)), .mov (.tmp 18)⟩, ⟨(some 198), (some (195, true)), .bin false .lss (.tmp 196) (.tmp 197)⟩, ⟨(some 199), none, .pick (.tmp 195) (.tmp 198) (.cst (.bool false))⟩]
def pslices_symMergeCmpFunc_Holdr47 : List GOp := [⟨(some 200), none, .mov (.tmp 0)⟩, ⟨(some 201), none, .mov (.tmp 1)⟩, ⟨(some 202), none, .mov (.tmp 20)⟩, ⟨(some 203), none, .mov (.tmp 18)⟩, ⟨(some 204), none, .mov (.tmp 4)⟩, ⟨(some 205), none, .call 0 2 (.cst (.fn 121)) [(.tmp 200), (.tmp 201), (.tmp 202), (.tmp 203), (.tmp 204)] [] [.ext 0]⟩]
def pslices_symMergeCmpFunc_Holdr48 : List GOp := [⟨(some 206), none, .mov (.tmp 18)⟩, ⟨(some 207), none, .mov (.tmp 24)⟩, ⟨(some 208), none, .bin false .lss (.tmp 206) (.tmp 207)⟩, ⟨(some 209), none, .mov (.tmp 208)⟩, ⟨(some 210), (some (209, true)), .mov (.tmp 24)⟩, ⟨(some 211), (some (209, true)), .mov (.tmp 3)⟩, ⟨(some 212), (some (209, true)), .bin false .lss (.tmp 210) (.tmp 211)⟩, ⟨(some 213), none, .pick (.tmp 209) (.tmp 212) (.cst (.bool false))⟩]
def pslices_symMergeCmpFunc_Holdr49 : List GOp := [⟨(some 214), none, .mov (.tmp 0)⟩, ⟨(some 215), none, .mov (.tmp 18)⟩, ⟨(some 216), none, .mov (.tmp 24)⟩, ⟨(some 217), none, .mov (.tmp 3)⟩, ⟨(some 218), none, .mov (.tmp 4)⟩, ⟨(some 219), none, .call 0 2 (.cst (.fn 121)) [(.tmp 214), (.tmp 215), (.tmp 216), (.tmp 217), (.tmp 218)] [] [.ext 0]⟩]
def pslices_symMergeCmpFunc_Holdb : AC := (.seq (.seq (.ops pslices_symMergeCmpFunc_Holdr0) (.cond (.tmp 28) (.seq (.ops pslices_symMergeCmpFunc_Holdr1) (.seq (.ops pslices_symMergeCmpFunc_Holdr2) (.seq (.block 0 (.loop [0, 1, 4, 10, 11] [] pslices_symMergeCmpFunc_Holdl8)) (.seq (.seq (.keep [] [(0, false), (1, false), (10, false)] [(.ext 0, false)] [] [] (.ops pslices_symMergeCmpFunc_Holdr9)) (.block 2 (.loop [0, 10, 13] [] pslices_symMergeCmpFunc_Holdl13))) (.keep [] [] [(.ext 0, false)] [] [] (.keep [] [] [(.ext 0, false)] [] [] .ret)))))) .skip)) (.seq (.seq (.ops pslices_symMergeCmpFunc_Holdr14) (.cond (.tmp 80) (.seq (.ops pslices_symMergeCmpFunc_Holdr15) (.seq (.ops pslices_symMergeCmpFunc_Holdr16) (.seq (.block 4 (.loop [0, 2, 4, 14, 15] [] pslices_symMergeCmpFunc_Holdl22)) (.seq (.seq (.keep [] [(0, false), (2, false), (14, false)] [(.ext 0, false)] [] [] (.ops pslices_symMergeCmpFunc_Holdr23)) (.block 6 (.loop [0, 14, 17] [] pslices_symMergeCmpFunc_Holdl27))) (.keep [] [] [(.ext 0, false)] [] [] (.keep [] [] [(.ext 0, false)] [] [] .ret)))))) .skip)) (.seq (.ops pslices_symMergeCmpFunc_Holdr28) (.seq (.ops pslices_symMergeCmpFunc_Holdr29) (.seq (.ops pslices_symMergeCmpFunc_Holdr30) (.seq (.seq (.ops pslices_symMergeCmpFunc_Holdr31) (.cond (.tmp 140) (.seq (.ops pslices_symMergeCmpFunc_Holdr32) (.ops pslices_symMergeCmpFunc_Holdr33)) (.seq (.ops pslices_symMergeCmpFunc_Holdr34) (.ops pslices_symMergeCmpFunc_Holdr35)))) (.seq (.keep [] [(0, false), (1, false), (2, false), (3, false), (4, false), (18, false), (19, false), (20, false), (21, false)] [(.ext 0, false)] [] [] (.ops pslices_symMergeCmpFunc_Holdr36)) (.seq (.block 8 (.loop [0, 1, 2, 3, 4, 18, 19, 20, 21, 22] [] pslices_symMergeCmpFunc_Holdl42)) (.seq (.keep [] [(0, false), (1, false), (2, false), (3, false), (4, false), (18, false), (19, false), (20, false)] [(.ext 0, false)] [] [] (.ops pslices_symMergeCmpFunc_Holdr43)) (.seq (.seq (.ops pslices_symMergeCmpFunc_Holdr44) (.cond (.tmp 185) (.ops pslices_symMergeCmpFunc_Holdr45) .skip)) (.seq (.seq (.keep [] [(0, false), (1, false), (3, false), (4, false), (18, false), (20, false), (24, false)] [(.ext 0, false)] [] [] (.ops pslices_symMergeCmpFunc_Holdr46)) (.cond (.tmp 199) (.ops pslices_symMergeCmpFunc_Holdr47) .skip)) (.seq (.keep [] [(0, false), (3, false), (4, false), (18, false), (24, false)] [(.ext 0, false)] [] [] (.ops pslices_symMergeCmpFunc_Holdr48)) (.cond (.tmp 213) (.ops pslices_symMergeCmpFunc_Holdr49) .skip)))))))))))))
def pslices_symMergeCmpFunc_Hold : Fd := ⟨5, [], [], pslices_symMergeCmpFunc_Holdb⟩
theorem pslices_symMergeCmpFunc_Hold_ag : agreeF Try.prog Try.f121 pslices_symMergeCmpFunc_Hold = true := by kernel_rfl
theorem slices_symMergeCmpFunc_Hold_ok {fuel : Nat} {a1 : Int} {m2 : Int} {b3 : Int} {l4 : List T_api_Hold} {r : List T_api_Hold} (h : slices_symMergeCmpFunc_Hold fuel a1 m2 b3 l4 = some r) : Contract Try.prog 121 [.own (.ext 0), .pv (.int .i64 a1), .pv (.int .i64 m2), .pv (.int .i64 b3), .pv (.fn 79)] [.row 9 (List.map T_api_Hold.pv l4)] ⟨.tup [], [], [(some (.row 9 (List.map T_api_Hold.pv r)))]⟩ := by
  induction fuel generalizing a1 m2 b3 l4 r with
  | zero => unfold slices_symMergeCmpFunc_Hold at h; cases h
  | succ fuel ih =>
    refine contract_fin hm Try.func121 pslices_symMergeCmpFunc_Hold_ag (by kernel_rfl) ?_
    unfold slices_symMergeCmpFunc_Hold at h
    refine W.assoc ?_
    refine W.seqOps (RunR.all (by kernel_rfl)) ?_
    refine W.seqCond (t := ((IntKind.wrap .i64 (m2 - a1)) == 1)) (by kernel_rfl) h (fun hc h' => ?_) (fun hc h' => ?_)
    · replace h := h'
      refine W.assoc ?_
      refine W.seqOps (RunR.all (by kernel_rfl)) ?_
      refine W.assoc ?_
      refine W.seqOps (RunR.all (by kernel_rfl)) ?_
      refine W.assoc ?_
      replace h := bindS h
      obtain ⟨j5, hj5, h⟩ := h
      refine W.join (j := j5) (fun p σ => σ.tidy [] [(0, false), (1, false), (10, false)] [(.ext 0, false)] [] [] = ⟨[(0, .own (.ext 0)), (1, .pv (.int .i64 a1)), (10, .pv (.int .i64 p))], [(.ext 0, .row 9 (List.map T_api_Hold.pv l4))]⟩) ?_ (fun σj5 hsj5 => ?_)
      · refine W.blockLoop (fun q σ => ((σ.forget [0, 1, 4, 10, 11]).killAll []).tidy [] [(0, false), (1, false), (4, false), (10, false), (11, false)] [(.ext 0, false)] [] [] = ⟨[(0, .own (.ext 0)), (1, .pv (.int .i64 a1)), (4, .pv (.fn 79)), (10, .pv (.int .i64 q.1)), (11, .pv (.int .i64 q.2))], [(.ext 0, .row 9 (List.map T_api_Hold.pv l4))]⟩) hj5 ?_ ?_
        · show _ = _
          kernel_rfl
        · intro q σj5 oj5 hJj5 h
          obtain ⟨i6, j7⟩ := q
          refine W.keep hJj5 ?_
          refine W.assoc ?_
          refine W.seqOps (RunR.all (by kernel_rfl)) ?_
          refine W.seqCond (t := decide (i6 < j7)) (by kernel_rfl) h (fun hc h' => ?_) (fun hc h' => ?_)
          · replace h := h'
            refine W.seqSkip ?_
            refine W.pass ?_
            refine W.seqOps (RunR.all (by kernel_rfl)) ?_
            replace h := bindS h
            obtain ⟨x8, hx8, h⟩ := h
            replace h := bindS h
            obtain ⟨x9, hx9, h⟩ := h
            replace h := bindS h
            obtain ⟨x10, hx10, h⟩ := h
            refine W.seqDraw (tab_cons (on := true) (fun _ => hold_Cover_1_ok hx10) tab_nil) (Run.stat 3 (by kernel_rfl) (Run.dyn (Step.idxOwnT (k := .ext 0) (f := T_api_Hold.pv) (l := l4) (n := IntKind.wrap .i64 (Int.fdiv (IntKind.wrap .u64 (IntKind.wrap .i64 (i6 + j7))) 2)) (e := x8) (kd := .i64) (by kernel_rfl) (by kernel_rfl) (by kernel_rfl) hx8) (Run.dyn (Step.loadRowT (off := 0) (k := .ext 0) (f := T_api_Hold.pv) (l := l4) (i := IntKind.wrap .i64 (Int.fdiv (IntKind.wrap .u64 (IntKind.wrap .i64 (i6 + j7))) 2)) (e := x8) (sz := 9) (v := .pv (T_api_Hold.pv x8)) (by kernel_rfl) (by kernel_rfl) hx8 (by kernel_rfl) (by kernel_rfl)) (Run.stat 2 (by kernel_rfl) (Run.dyn (Step.idxOwnT (k := .ext 0) (f := T_api_Hold.pv) (l := l4) (n := a1) (e := x9) (kd := .i64) (by kernel_rfl) (by kernel_rfl) (by kernel_rfl) hx9) (Run.dyn (Step.loadRowT (off := 0) (k := .ext 0) (f := T_api_Hold.pv) (l := l4) (i := a1) (e := x9) (sz := 9) (v := .pv (T_api_Hold.pv x9)) (by kernel_rfl) (by kernel_rfl) hx9 (by kernel_rfl) (by kernel_rfl)) (Run.dyn (Step.call0 (g := 79) (caps := []) (v := .pv (.int .i64 x10)) (by kernel_rfl) (by kernel_rfl) (by kernel_rfl) (tab_hit (by kernel_rfl)) (by kernel_rfl)) (Run.all (by kernel_rfl))))))))) ?_
            refine W.condI (t := decide (x10 < 0)) (by kernel_rfl) h (fun hc h' => ?_) (fun hc h' => ?_)
            · replace h := h'
              refine W.ops (RunR.all (by kernel_rfl)) ?_
              cases h
              exact (outw_in (by (show _ = _); kernel_rfl))
            · replace h := h'
              refine W.ops (RunR.all (by kernel_rfl)) ?_
              cases h
              exact (outw_in (by (show _ = _); kernel_rfl))
          · replace h := h'
            cases h
            exact W.seqExit ((outw_out exit_ne (bnorm_x (by (show _ = _); kernel_rfl))))
      · refine W.assoc ?_
        refine W.assoc ?_
        refine W.seqKeep hsj5 ?_
        refine W.seqOps (RunR.all (by kernel_rfl)) ?_
        replace h := bindS h
        obtain ⟨j12, hj12, h⟩ := h
        refine W.join (j := j12) (fun p σ => σ.tidy [] [] [(.ext 0, false)] [] [] = ⟨[], [(.ext 0, .row 9 (List.map T_api_Hold.pv p))]⟩) ?_ (fun σj12 hsj12 => ?_)
        · refine W.blockLoop (fun q σ => ((σ.forget [0, 10, 13]).killAll []).tidy [] [(0, false), (10, false), (13, false)] [(.ext 0, false)] [] [] = ⟨[(0, .own (.ext 0)), (10, .pv (.int .i64 j5)), (13, .pv (.int .i64 q.1))], [(.ext 0, .row 9 (List.map T_api_Hold.pv q.2))]⟩) hj12 ?_ ?_
          · show _ = _
            kernel_rfl
          · intro q σj12 oj12 hJj12 h
            obtain ⟨k13, row14⟩ := q
            refine W.keep hJj12 ?_
            refine W.assoc ?_
            refine W.seqOps (RunR.all (by kernel_rfl)) ?_
            refine W.seqCond (t := decide (k13 < (IntKind.wrap .i64 (j5 - 1)))) (by kernel_rfl) h (fun hc h' => ?_) (fun hc h' => ?_)
            · replace h := h'
              refine W.seqSkip ?_
              refine W.seqPass ?_
              replace h := bindS h
              obtain ⟨x15, hx15, h⟩ := h
              replace h := bindS h
              obtain ⟨x16, hx16, h⟩ := h
              replace h := bindS h
              obtain ⟨x17, hx17, h⟩ := h
              replace h := bindS h
              obtain ⟨x18, hx18, h⟩ := h
              refine W.seqDraw tab_nil (Run.stat 8 (by kernel_rfl) (Run.dyn (Step.idxOwnT (k := .ext 0) (f := T_api_Hold.pv) (l := row14) (n := IntKind.wrap .i64 (k13 + 1)) (e := x15) (kd := .i64) (by kernel_rfl) (by kernel_rfl) (by kernel_rfl) hx15) (Run.dyn (Step.loadRowT (off := 0) (k := .ext 0) (f := T_api_Hold.pv) (l := row14) (i := IntKind.wrap .i64 (k13 + 1)) (e := x15) (sz := 9) (v := .pv (T_api_Hold.pv x15)) (by kernel_rfl) (by kernel_rfl) hx15 (by kernel_rfl) (by kernel_rfl)) (Run.stat 2 (by kernel_rfl) (Run.dyn (Step.idxOwnT (k := .ext 0) (f := T_api_Hold.pv) (l := row14) (n := k13) (e := x16) (kd := .i64) (by kernel_rfl) (by kernel_rfl) (by kernel_rfl) hx16) (Run.dyn (Step.loadRowT (off := 0) (k := .ext 0) (f := T_api_Hold.pv) (l := row14) (i := k13) (e := x16) (sz := 9) (v := .pv (T_api_Hold.pv x16)) (by kernel_rfl) (by kernel_rfl) hx16 (by kernel_rfl) (by kernel_rfl)) (Run.dyn (Step.idxOwnT (k := .ext 0) (f := T_api_Hold.pv) (l := row14) (n := k13) (e := x17) (kd := .i64) (by kernel_rfl) (by kernel_rfl) (by kernel_rfl) hx17) (Run.dyn (Step.storeRowT (sz := 9) (off := 0) (k := .ext 0) (f := T_api_Hold.pv) (l := row14) (i := k13) (e := x17) (e' := x15) (v := (T_api_Hold.pv x15)) (by kernel_rfl) (by kernel_rfl) (by kernel_rfl) hx17 (by kernel_rfl) (by kernel_rfl)) (Run.dyn (Step.idxOwnT (k := .ext 0) (f := T_api_Hold.pv) (l := (List.set row14 (Int.toNat k13) x15)) (n := IntKind.wrap .i64 (k13 + 1)) (e := x18) (kd := .i64) (by kernel_rfl) (by kernel_rfl) (by kernel_rfl) hx18) (Run.dyn (Step.storeRowT (sz := 9) (off := 0) (k := .ext 0) (f := T_api_Hold.pv) (l := (List.set row14 (Int.toNat k13) x15)) (i := IntKind.wrap .i64 (k13 + 1)) (e := x18) (e' := x16) (v := (T_api_Hold.pv x16)) (by kernel_rfl) (by kernel_rfl) (by kernel_rfl) hx18 (by kernel_rfl) (by kernel_rfl)) ((Run.nil)))))))))))) ?_
              refine W.ops (RunR.all (by kernel_rfl)) ?_
              cases h
              exact (outw_in (by (show _ = _); kernel_rfl))
            · replace h := h'
              cases h
              exact W.seqExit ((outw_out exit_ne (bnorm_x (by (show _ = _); kernel_rfl))))
        · refine W.seqKeep hsj12 ?_
          refine W.seqKeep rfl ?_
          cases h
          exact W.seqRet ((fin_ret (by kernel_rfl)))
    · replace h := h'
      refine W.seqSkip ?_
      refine W.assoc ?_
      refine W.seqOps (RunR.all (by kernel_rfl)) ?_
      refine W.seqCond (t := ((IntKind.wrap .i64 (b3 - m2)) == 1)) (by kernel_rfl) h (fun hc h' => ?_) (fun hc h' => ?_)
      · replace h := h'
        refine W.assoc ?_
        refine W.seqOps (RunR.all (by kernel_rfl)) ?_
        refine W.assoc ?_
        refine W.seqOps (RunR.all (by kernel_rfl)) ?_
        refine W.assoc ?_
        replace h := bindS h
        obtain ⟨j20, hj20, h⟩ := h
        refine W.join (j := j20) (fun p σ => σ.tidy [] [(0, false), (2, false), (14, false)] [(.ext 0, false)] [] [] = ⟨[(0, .own (.ext 0)), (2, .pv (.int .i64 m2)), (14, .pv (.int .i64 p))], [(.ext 0, .row 9 (List.map T_api_Hold.pv l4))]⟩) ?_ (fun σj20 hsj20 => ?_)
        · refine W.blockLoop (fun q σ => ((σ.forget [0, 2, 4, 14, 15]).killAll []).tidy [] [(0, false), (2, false), (4, false), (14, false), (15, false)] [(.ext 0, false)] [] [] = ⟨[(0, .own (.ext 0)), (2, .pv (.int .i64 m2)), (4, .pv (.fn 79)), (14, .pv (.int .i64 q.1)), (15, .pv (.int .i64 q.2))], [(.ext 0, .row 9 (List.map T_api_Hold.pv l4))]⟩) hj20 ?_ ?_
          · show _ = _
            kernel_rfl
          · intro q σj20 oj20 hJj20 h
            obtain ⟨i21, j22⟩ := q
            refine W.keep hJj20 ?_
            refine W.assoc ?_
            refine W.seqOps (RunR.all (by kernel_rfl)) ?_
            refine W.seqCond (t := decide (i21 < j22)) (by kernel_rfl) h (fun hc h' => ?_) (fun hc h' => ?_)
            · replace h := h'
              refine W.seqSkip ?_
              refine W.pass ?_
              refine W.seqOps (RunR.all (by kernel_rfl)) ?_
              replace h := bindS h
              obtain ⟨x23, hx23, h⟩ := h
              replace h := bindS h
              obtain ⟨x24, hx24, h⟩ := h
              replace h := bindS h
              obtain ⟨x25, hx25, h⟩ := h
              refine W.seqDraw (tab_cons (on := true) (fun _ => hold_Cover_1_ok hx25) tab_nil) (Run.stat 3 (by kernel_rfl) (Run.dyn (Step.idxOwnT (k := .ext 0) (f := T_api_Hold.pv) (l := l4) (n := m2) (e := x23) (kd := .i64) (by kernel_rfl) (by kernel_rfl) (by kernel_rfl) hx23) (Run.dyn (Step.loadRowT (off := 0) (k := .ext 0) (f := T_api_Hold.pv) (l := l4) (i := m2) (e := x23) (sz := 9) (v := .pv (T_api_Hold.pv x23)) (by kernel_rfl) (by kernel_rfl) hx23 (by kernel_rfl) (by kernel_rfl)) (Run.stat 2 (by kernel_rfl) (Run.dyn (Step.idxOwnT (k := .ext 0) (f := T_api_Hold.pv) (l := l4) (n := IntKind.wrap .i64 (Int.fdiv (IntKind.wrap .u64 (IntKind.wrap .i64 (i21 + j22))) 2)) (e := x24) (kd := .i64) (by kernel_rfl) (by kernel_rfl) (by kernel_rfl) hx24) (Run.dyn (Step.loadRowT (off := 0) (k := .ext 0) (f := T_api_Hold.pv) (l := l4) (i := IntKind.wrap .i64 (Int.fdiv (IntKind.wrap .u64 (IntKind.wrap .i64 (i21 + j22))) 2)) (e := x24) (sz := 9) (v := .pv (T_api_Hold.pv x24)) (by kernel_rfl) (by kernel_rfl) hx24 (by kernel_rfl) (by kernel_rfl)) (Run.dyn (Step.call0 (g := 79) (caps := []) (v := .pv (.int .i64 x25)) (by kernel_rfl) (by kernel_rfl) (by kernel_rfl) (tab_hit (by kernel_rfl)) (by kernel_rfl)) (Run.all (by kernel_rfl))))))))) ?_
              refine W.condI (t := !(decide (x25 < 0))) (by kernel_rfl) h (fun hc h' => ?_) (fun hc h' => ?_)
              · replace h := h'
                refine W.ops (RunR.all (by kernel_rfl)) ?_
                cases h
                exact (outw_in (by (show _ = _); kernel_rfl))
              · replace h := h'
                refine W.ops (RunR.all (by kernel_rfl)) ?_
                cases h
                exact (outw_in (by (show _ = _); kernel_rfl))
            · replace h := h'
              cases h
              exact W.seqExit ((outw_out exit_ne (bnorm_x (by (show _ = _); kernel_rfl))))
        · refine W.assoc ?_
          refine W.assoc ?_
          refine W.seqKeep hsj20 ?_
          refine W.seqOps (RunR.all (by kernel_rfl)) ?_
          replace h := bindS h
          obtain ⟨j27, hj27, h⟩ := h
          refine W.join (j := j27) (fun p σ => σ.tidy [] [] [(.ext 0, false)] [] [] = ⟨[], [(.ext 0, .row 9 (List.map T_api_Hold.pv p))]⟩) ?_ (fun σj27 hsj27 => ?_)
          · refine W.blockLoop (fun q σ => ((σ.forget [0, 14, 17]).killAll []).tidy [] [(0, false), (14, false), (17, false)] [(.ext 0, false)] [] [] = ⟨[(0, .own (.ext 0)), (14, .pv (.int .i64 j20)), (17, .pv (.int .i64 q.1))], [(.ext 0, .row 9 (List.map T_api_Hold.pv q.2))]⟩) hj27 ?_ ?_
            · show _ = _
              kernel_rfl
            · intro q σj27 oj27 hJj27 h
              obtain ⟨k28, row29⟩ := q
              refine W.keep hJj27 ?_
              refine W.assoc ?_
              refine W.seqOps (RunR.all (by kernel_rfl)) ?_
              refine W.seqCond (t := decide (k28 > j20)) (by kernel_rfl) h (fun hc h' => ?_) (fun hc h' => ?_)
              · replace h := h'
                refine W.seqSkip ?_
                refine W.seqPass ?_
                replace h := bindS h
                obtain ⟨x30, hx30, h⟩ := h
                replace h := bindS h
                obtain ⟨x31, hx31, h⟩ := h
                replace h := bindS h
                obtain ⟨x32, hx32, h⟩ := h
                replace h := bindS h
                obtain ⟨x33, hx33, h⟩ := h
                refine W.seqDraw tab_nil (Run.stat 8 (by kernel_rfl) (Run.dyn (Step.idxOwnT (k := .ext 0) (f := T_api_Hold.pv) (l := row29) (n := IntKind.wrap .i64 (k28 - 1)) (e := x30) (kd := .i64) (by kernel_rfl) (by kernel_rfl) (by kernel_rfl) hx30) (Run.dyn (Step.loadRowT (off := 0) (k := .ext 0) (f := T_api_Hold.pv) (l := row29) (i := IntKind.wrap .i64 (k28 - 1)) (e := x30) (sz := 9) (v := .pv (T_api_Hold.pv x30)) (by kernel_rfl) (by kernel_rfl) hx30 (by kernel_rfl) (by kernel_rfl)) (Run.stat 2 (by kernel_rfl) (Run.dyn (Step.idxOwnT (k := .ext 0) (f := T_api_Hold.pv) (l := row29) (n := k28) (e := x31) (kd := .i64) (by kernel_rfl) (by kernel_rfl) (by kernel_rfl) hx31) (Run.dyn (Step.loadRowT (off := 0) (k := .ext 0) (f := T_api_Hold.pv) (l := row29) (i := k28) (e := x31) (sz := 9) (v := .pv (T_api_Hold.pv x31)) (by kernel_rfl) (by kernel_rfl) hx31 (by kernel_rfl) (by kernel_rfl)) (Run.dyn (Step.idxOwnT (k := .ext 0) (f := T_api_Hold.pv) (l := row29) (n := k28) (e := x32) (kd := .i64) (by kernel_rfl) (by kernel_rfl) (by kernel_rfl) hx32) (Run.dyn (Step.storeRowT (sz := 9) (off := 0) (k := .ext 0) (f := T_api_Hold.pv) (l := row29) (i := k28) (e := x32) (e' := x30) (v := (T_api_Hold.pv x30)) (by kernel_rfl) (by kernel_rfl) (by kernel_rfl) hx32 (by kernel_rfl) (by kernel_rfl)) (Run.dyn (Step.idxOwnT (k := .ext 0) (f := T_api_Hold.pv) (l := (List.set row29 (Int.toNat k28) x30)) (n := IntKind.wrap .i64 (k28 - 1)) (e := x33) (kd := .i64) (by kernel_rfl) (by kernel_rfl) (by kernel_rfl) hx33) (Run.dyn (Step.storeRowT (sz := 9) (off := 0) (k := .ext 0) (f := T_api_Hold.pv) (l := (List.set row29 (Int.toNat k28) x30)) (i := IntKind.wrap .i64 (k28 - 1)) (e := x33) (e' := x31) (v := (T_api_Hold.pv x31)) (by kernel_rfl) (by kernel_rfl) (by kernel_rfl) hx33 (by kernel_rfl) (by kernel_rfl)) ((Run.nil)))))))))))) ?_
                refine W.ops (RunR.all (by kernel_rfl)) ?_
                cases h
                exact (outw_in (by (show _ = _); kernel_rfl))
              · replace h := h'
                cases h
                exact W.seqExit ((outw_out exit_ne (bnorm_x (by (show _ = _); kernel_rfl))))
          · refine W.seqKeep hsj27 ?_
            refine W.seqKeep rfl ?_
            cases h
            exact W.seqRet ((fin_ret (by kernel_rfl)))
      · replace h := h'
        refine W.seqSkip ?_
        refine W.seqOps (RunR.all (by kernel_rfl)) ?_
        refine W.seqOps (RunR.all (by kernel_rfl)) ?_
        refine W.seqOps (RunR.all (by kernel_rfl)) ?_
        refine W.assoc ?_
        refine W.seqOps (RunR.all (by kernel_rfl)) ?_
        replace h := bindS h
        obtain ⟨j35, hj35, h⟩ := h
        refine W.join (j := j35) (fun p σ => σ.tidy [] [(0, false), (1, false), (2, false), (3, false), (4, false), (18, false), (19, false), (20, false), (21, false)] [(.ext 0, false)] [] [] = ⟨[(0, .own (.ext 0)), (1, .pv (.int .i64 a1)), (2, .pv (.int .i64 m2)), (3, .pv (.int .i64 b3)), (4, .pv (.fn 79)), (18, .pv (.int .i64 (IntKind.wrap .i64 (Int.fdiv (IntKind.wrap .u64 (IntKind.wrap .i64 (a1 + b3))) 2)))), (19, .pv (.int .i64 (IntKind.wrap .i64 ((IntKind.wrap .i64 (Int.fdiv (IntKind.wrap .u64 (IntKind.wrap .i64 (a1 + b3))) 2)) + m2)))), (20, .pv (.int .i64 p.1)), (21, .pv (.int .i64 p.2))], [(.ext 0, .row 9 (List.map T_api_Hold.pv l4))]⟩) ?_ (fun σj35 hsj35 => ?_)
        · replace h := hj35
          refine W.condI (t := decide (m2 > (IntKind.wrap .i64 (Int.fdiv (IntKind.wrap .u64 (IntKind.wrap .i64 (a1 + b3))) 2)))) (by kernel_rfl) h (fun hc h' => ?_) (fun hc h' => ?_)
          · replace h := h'
            refine W.seqOps (RunR.all (by kernel_rfl)) ?_
            refine W.ops (RunR.all (by kernel_rfl)) ?_
            cases h
            exact (normw (by (show _ = _); kernel_rfl))
          · replace h := h'
            refine W.seqOps (RunR.all (by kernel_rfl)) ?_
            refine W.ops (RunR.all (by kernel_rfl)) ?_
            cases h
            exact (normw (by (show _ = _); kernel_rfl))
        · obtain ⟨start36, r37⟩ := j35
          refine W.seqKeep hsj35 ?_
          refine W.seqOps (RunR.all (by kernel_rfl)) ?_
          replace h := bindS h
          obtain ⟨j38, hj38, h⟩ := h
          refine W.join (j := j38) (fun p σ => σ.tidy [] [(0, false), (1, false), (2, false), (3, false), (4, false), (18, false), (19, false), (20, false)] [(.ext 0, false)] [] [] = ⟨[(0, .own (.ext 0)), (1, .pv (.int .i64 a1)), (2, .pv (.int .i64 m2)), (3, .pv (.int .i64 b3)), (4, .pv (.fn 79)), (18, .pv (.int .i64 (IntKind.wrap .i64 (Int.fdiv (IntKind.wrap .u64 (IntKind.wrap .i64 (a1 + b3))) 2)))), (19, .pv (.int .i64 (IntKind.wrap .i64 ((IntKind.wrap .i64 (Int.fdiv (IntKind.wrap .u64 (IntKind.wrap .i64 (a1 + b3))) 2)) + m2)))), (20, .pv (.int .i64 p))], [(.ext 0, .row 9 (List.map T_api_Hold.pv l4))]⟩) ?_ (fun σj38 hsj38 => ?_)
          · refine W.blockLoop (fun q σ => ((σ.forget [0, 1, 2, 3, 4, 18, 19, 20, 21, 22]).killAll []).tidy [] [(0, false), (1, false), (2, false), (3, false), (4, false), (18, false), (19, false), (20, false), (21, false), (22, false)] [(.ext 0, false)] [] [] = ⟨[(0, .own (.ext 0)), (1, .pv (.int .i64 a1)), (2, .pv (.int .i64 m2)), (3, .pv (.int .i64 b3)), (4, .pv (.fn 79)), (18, .pv (.int .i64 (IntKind.wrap .i64 (Int.fdiv (IntKind.wrap .u64 (IntKind.wrap .i64 (a1 + b3))) 2)))), (19, .pv (.int .i64 (IntKind.wrap .i64 ((IntKind.wrap .i64 (Int.fdiv (IntKind.wrap .u64 (IntKind.wrap .i64 (a1 + b3))) 2)) + m2)))), (20, .pv (.int .i64 q.1)), (21, .pv (.int .i64 q.2)), (22, .pv (.int .i64 (IntKind.wrap .i64 ((IntKind.wrap .i64 ((IntKind.wrap .i64 (Int.fdiv (IntKind.wrap .u64 (IntKind.wrap .i64 (a1 + b3))) 2)) + m2)) - 1))))], [(.ext 0, .row 9 (List.map T_api_Hold.pv l4))]⟩) hj38 ?_ ?_
            · show _ = _
              kernel_rfl
            · intro q σj38 oj38 hJj38 h
              obtain ⟨start39, r40⟩ := q
              refine W.keep hJj38 ?_
              refine W.assoc ?_
              refine W.seqOps (RunR.all (by kernel_rfl)) ?_
              refine W.seqCond (t := decide (start39 < r40)) (by kernel_rfl) h (fun hc h' => ?_) (fun hc h' => ?_)
              · replace h := h'
                refine W.seqSkip ?_
                refine W.pass ?_
                refine W.seqOps (RunR.all (by kernel_rfl)) ?_
                replace h := bindS h
                obtain ⟨x41, hx41, h⟩ := h
                replace h := bindS h
                obtain ⟨x42, hx42, h⟩ := h
                replace h := bindS h
                obtain ⟨x43, hx43, h⟩ := h
                refine W.seqDraw (tab_cons (on := true) (fun _ => hold_Cover_1_ok hx43) tab_nil) (Run.stat 5 (by kernel_rfl) (Run.dyn (Step.idxOwnT (k := .ext 0) (f := T_api_Hold.pv) (l := l4) (n := IntKind.wrap .i64 ((IntKind.wrap .i64 ((IntKind.wrap .i64 ((IntKind.wrap .i64 (Int.fdiv (IntKind.wrap .u64 (IntKind.wrap .i64 (a1 + b3))) 2)) + m2)) - 1)) - (IntKind.wrap .i64 (Int.fdiv (IntKind.wrap .u64 (IntKind.wrap .i64 (start39 + r40))) 2)))) (e := x41) (kd := .i64) (by kernel_rfl) (by kernel_rfl) (by kernel_rfl) hx41) (Run.dyn (Step.loadRowT (off := 0) (k := .ext 0) (f := T_api_Hold.pv) (l := l4) (i := IntKind.wrap .i64 ((IntKind.wrap .i64 ((IntKind.wrap .i64 ((IntKind.wrap .i64 (Int.fdiv (IntKind.wrap .u64 (IntKind.wrap .i64 (a1 + b3))) 2)) + m2)) - 1)) - (IntKind.wrap .i64 (Int.fdiv (IntKind.wrap .u64 (IntKind.wrap .i64 (start39 + r40))) 2)))) (e := x41) (sz := 9) (v := .pv (T_api_Hold.pv x41)) (by kernel_rfl) (by kernel_rfl) hx41 (by kernel_rfl) (by kernel_rfl)) (Run.stat 2 (by kernel_rfl) (Run.dyn (Step.idxOwnT (k := .ext 0) (f := T_api_Hold.pv) (l := l4) (n := IntKind.wrap .i64 (Int.fdiv (IntKind.wrap .u64 (IntKind.wrap .i64 (start39 + r40))) 2)) (e := x42) (kd := .i64) (by kernel_rfl) (by kernel_rfl) (by kernel_rfl) hx42) (Run.dyn (Step.loadRowT (off := 0) (k := .ext 0) (f := T_api_Hold.pv) (l := l4) (i := IntKind.wrap .i64 (Int.fdiv (IntKind.wrap .u64 (IntKind.wrap .i64 (start39 + r40))) 2)) (e := x42) (sz := 9) (v := .pv (T_api_Hold.pv x42)) (by kernel_rfl) (by kernel_rfl) hx42 (by kernel_rfl) (by kernel_rfl)) (Run.dyn (Step.call0 (g := 79) (caps := []) (v := .pv (.int .i64 x43)) (by kernel_rfl) (by kernel_rfl) (by kernel_rfl) (tab_hit (by kernel_rfl)) (by kernel_rfl)) (Run.all (by kernel_rfl))))))))) ?_
                refine W.condI (t := !(decide (x43 < 0))) (by kernel_rfl) h (fun hc h' => ?_) (fun hc h' => ?_)
                · replace h := h'
                  refine W.ops (RunR.all (by kernel_rfl)) ?_
                  cases h
                  exact (outw_in (by (show _ = _); kernel_rfl))
                · replace h := h'
                  refine W.ops (RunR.all (by kernel_rfl)) ?_
                  cases h
                  exact (outw_in (by (show _ = _); kernel_rfl))
              · replace h := h'
                cases h
                exact W.seqExit ((outw_out exit_ne (bnorm_x (by (show _ = _); kernel_rfl))))
          · refine W.seqKeep hsj38 ?_
            refine W.seqOps (RunR.all (by kernel_rfl)) ?_
            refine W.assoc ?_
            replace h := bindS h
            obtain ⟨c45, hc45, h⟩ := h
            refine W.seqOps (RunR.stat 3 (by kernel_rfl) (RunR.dyn (Step.name (f := eBool) (e := decide (j38 < m2)) (c := c45) (by kernel_rfl) hc45) (RunR.puts 4 [(185, .pv (.bool (c45 && (decide (m2 < (IntKind.wrap .i64 ((IntKind.wrap .i64 ((IntKind.wrap .i64 (Int.fdiv (IntKind.wrap .u64 (IntKind.wrap .i64 (a1 + b3))) 2)) + m2)) - j38))))))), (184, (bif c45 then (.pv (.bool (decide (m2 < (IntKind.wrap .i64 ((IntKind.wrap .i64 ((IntKind.wrap .i64 (Int.fdiv (IntKind.wrap .u64 (IntKind.wrap .i64 (a1 + b3))) 2)) + m2)) - j38)))))) else (.tup []))), (183, (bif c45 then (.pv (.int .i64 (IntKind.wrap .i64 ((IntKind.wrap .i64 ((IntKind.wrap .i64 (Int.fdiv (IntKind.wrap .u64 (IntKind.wrap .i64 (a1 + b3))) 2)) + m2)) - j38)))) else (.tup []))), (182, (bif c45 then (.pv (.int .i64 m2)) else (.tup [])))] (by cases c45 <;> kernel_rfl) ((.nil _))))) ?_
            replace h := bindS h
            obtain ⟨j46, hj46, h⟩ := h
            refine W.join (j := j46) (fun p σ => σ.tidy [] [(0, false), (1, false), (3, false), (4, false), (18, false), (20, false), (24, false)] [(.ext 0, false)] [] [] = ⟨[(0, .own (.ext 0)), (1, .pv (.int .i64 a1)), (3, .pv (.int .i64 b3)), (4, .pv (.fn 79)), (18, .pv (.int .i64 (IntKind.wrap .i64 (Int.fdiv (IntKind.wrap .u64 (IntKind.wrap .i64 (a1 + b3))) 2)))), (20, .pv (.int .i64 j38)), (24, .pv (.int .i64 (IntKind.wrap .i64 ((IntKind.wrap .i64 ((IntKind.wrap .i64 (Int.fdiv (IntKind.wrap .u64 (IntKind.wrap .i64 (a1 + b3))) 2)) + m2)) - j38))))], [(.ext 0, .row 9 (List.map T_api_Hold.pv p))]⟩) ?_ (fun σj46 hsj46 => ?_)
            · replace h := hj46
              refine W.condI (t := (c45 && (decide (m2 < (IntKind.wrap .i64 ((IntKind.wrap .i64 ((IntKind.wrap .i64 (Int.fdiv (IntKind.wrap .u64 (IntKind.wrap .i64 (a1 + b3))) 2)) + m2)) - j38)))))) (by kernel_rfl) h (fun hc h' => ?_) (fun hc h' => ?_)
              · replace h := h'
                replace h := bindS h
                obtain ⟨x47, hx47, h⟩ := h
                refine W.ops (RunR.stat 5 (by kernel_rfl) (RunR.cons (tab_cons (on := true) (fun _ => slices_rotateCmpFunc_Hold_ok hx47) tab_nil) (Step.callG (g := 126) (caps := []) (v := .tup []) (ins := []) rfl (by kernel_rfl) (by kernel_rfl) (by kernel_rfl) (tab_hit (by kernel_rfl)) (by kernel_rfl) (by kernel_rfl)) ((.nil _)))) ?_
                cases h
                exact (normw (by (show _ = _); kernel_rfl))
              · replace h := h'
                cases h
                exact W.skip ((normw (by (show _ = _); kernel_rfl)))
            · refine W.assoc ?_
              refine W.seqKeep hsj46 ?_
              replace h := bindS h
              obtain ⟨c49, hc49, h⟩ := h
              refine W.seqOps (RunR.stat 3 (by kernel_rfl) (RunR.dyn (Step.name (f := eBool) (e := decide (a1 < j38)) (c := c49) (by kernel_rfl) hc49) (RunR.puts 4 [(199, .pv (.bool (c49 && (decide (j38 < (IntKind.wrap .i64 (Int.fdiv (IntKind.wrap .u64 (IntKind.wrap .i64 (a1 + b3))) 2))))))), (198, (bif c49 then (.pv (.bool (decide (j38 < (IntKind.wrap .i64 (Int.fdiv (IntKind.wrap .u64 (IntKind.wrap .i64 (a1 + b3))) 2)))))) else (.tup []))), (197, (bif c49 then (.pv (.int .i64 (IntKind.wrap .i64 (Int.fdiv (IntKind.wrap .u64 (IntKind.wrap .i64 (a1 + b3))) 2)))) else (.tup []))), (196, (bif c49 then (.pv (.int .i64 j38)) else (.tup [])))] (by cases c49 <;> kernel_rfl) ((.nil _))))) ?_
              replace h := bindS h
              obtain ⟨j50, hj50, h⟩ := h
              refine W.join (j := j50) (fun p σ => σ.tidy [] [(0, false), (3, false), (4, false), (18, false), (24, false)] [(.ext 0, false)] [] [] = ⟨[(0, .own (.ext 0)), (3, .pv (.int .i64 b3)), (4, .pv (.fn 79)), (18, .pv (.int .i64 (IntKind.wrap .i64 (Int.fdiv (IntKind.wrap .u64 (IntKind.wrap .i64 (a1 + b3))) 2)))), (24, .pv (.int .i64 (IntKind.wrap .i64 ((IntKind.wrap .i64 ((IntKind.wrap .i64 (Int.fdiv (IntKind.wrap .u64 (IntKind.wrap .i64 (a1 + b3))) 2)) + m2)) - j38))))], [(.ext 0, .row 9 (List.map T_api_Hold.pv p))]⟩) ?_ (fun σj50 hsj50 => ?_)
              · replace h := hj50
                refine W.condI (t := (c49 && (decide (j38 < (IntKind.wrap .i64 (Int.fdiv (IntKind.wrap .u64 (IntKind.wrap .i64 (a1 + b3))) 2)))))) (by kernel_rfl) h (fun hc h' => ?_) (fun hc h' => ?_)
                · replace h := h'
                  replace h := bindS h
                  obtain ⟨x51, hx51, h⟩ := h
                  refine W.ops (RunR.stat 5 (by kernel_rfl) (RunR.cons (tab_cons (on := true) (fun _ => ih hx51) tab_nil) (Step.callG (g := 121) (caps := []) (v := .tup []) (ins := []) rfl (by kernel_rfl) (by kernel_rfl) (by kernel_rfl) (tab_hit (by kernel_rfl)) (by kernel_rfl) (by kernel_rfl)) ((.nil _)))) ?_
                  cases h
                  exact (normw (by (show _ = _); kernel_rfl))
                · replace h := h'
                  cases h
                  exact W.skip ((normw (by (show _ = _); kernel_rfl)))
              · refine W.seqKeep hsj50 ?_
                replace h := bindS h
                obtain ⟨c53, hc53, h⟩ := h
                refine W.seqOps (RunR.stat 3 (by kernel_rfl) (RunR.dyn (Step.name (f := eBool) (e := decide ((IntKind.wrap .i64 (Int.fdiv (IntKind.wrap .u64 (IntKind.wrap .i64 (a1 + b3))) 2)) < (IntKind.wrap .i64 ((IntKind.wrap .i64 ((IntKind.wrap .i64 (Int.fdiv (IntKind.wrap .u64 (IntKind.wrap .i64 (a1 + b3))) 2)) + m2)) - j38)))) (c := c53) (by kernel_rfl) hc53) (RunR.puts 4 [(213, .pv (.bool (c53 && (decide ((IntKind.wrap .i64 ((IntKind.wrap .i64 ((IntKind.wrap .i64 (Int.fdiv (IntKind.wrap .u64 (IntKind.wrap .i64 (a1 + b3))) 2)) + m2)) - j38)) < b3))))), (212, (bif c53 then (.pv (.bool (decide ((IntKind.wrap .i64 ((IntKind.wrap .i64 ((IntKind.wrap .i64 (Int.fdiv (IntKind.wrap .u64 (IntKind.wrap .i64 (a1 + b3))) 2)) + m2)) - j38)) < b3)))) else (.tup []))), (211, (bif c53 then (.pv (.int .i64 b3)) else (.tup []))), (210, (bif c53 then (.pv (.int .i64 (IntKind.wrap .i64 ((IntKind.wrap .i64 ((IntKind.wrap .i64 (Int.fdiv (IntKind.wrap .u64 (IntKind.wrap .i64 (a1 + b3))) 2)) + m2)) - j38)))) else (.tup [])))] (by cases c53 <;> kernel_rfl) ((.nil _))))) ?_
                refine W.condI (t := (c53 && (decide ((IntKind.wrap .i64 ((IntKind.wrap .i64 ((IntKind.wrap .i64 (Int.fdiv (IntKind.wrap .u64 (IntKind.wrap .i64 (a1 + b3))) 2)) + m2)) - j38)) < b3)))) (by kernel_rfl) h (fun hc h' => ?_) (fun hc h' => ?_)
                · replace h := h'
                  replace h := bindS h
                  obtain ⟨x54, hx54, h⟩ := h
                  refine W.ops (RunR.stat 5 (by kernel_rfl) (RunR.cons (tab_cons (on := true) (fun _ => ih hx54) tab_nil) (Step.callG (g := 121) (caps := []) (v := .tup []) (ins := []) rfl (by kernel_rfl) (by kernel_rfl) (by kernel_rfl) (tab_hit (by kernel_rfl)) (by kernel_rfl) (by kernel_rfl)) ((.nil _)))) ?_
                  cases h
                  exact (fin_norm (by kernel_rfl))
                · replace h := h'
                  cases h
                  exact W.skip ((fin_norm (by kernel_rfl)))
def pslices_stableCmpFunc_Holdr0 : List GOp := [⟨(some 6), none, .mov (.cst (.int .i64 20))⟩]
def pslices_stableCmpFunc_Holdr1 : List GOp := [⟨(some 10), none, .mov (.tmp 6)⟩, ⟨(some 7), none, .mov (.cst (.int .i64 0))⟩, ⟨(some 8), none, .mov (.tmp 10)⟩]
def pslices_stableCmpFunc_Holdr2 : List GOp := [⟨(some 11), none, .mov (.tmp 8)⟩, ⟨(some 12), none, .mov (.tmp 1)⟩, ⟨(some 13), none, .bin false .leq (.tmp 11) (.tmp 12)⟩]
def pslices_stableCmpFunc_Holdr3 : List GOp := [⟨(some 14), none, .mov (.tmp 0)⟩, ⟨(some 15), none, .mov (.tmp 7)⟩, ⟨(some 16), none, .mov (.tmp 8)⟩, ⟨(some 17), none, .mov (.tmp 2)⟩, ⟨(some 18), none, .call 0 2 (.cst (.fn 120)) [(.tmp 14), (.tmp 15), (.tmp 16), (.tmp 17)] [] [.ext 0]⟩]
def pslices_stableCmpFunc_Holdr4 : List GOp := [⟨(some 19), none, .mov (.tmp 8)⟩, ⟨(some 7), none, .mov (.tmp 19)⟩]
def pslices_stableCmpFunc_Holdr5 : List GOp := [⟨(some 20), none, .mov (.tmp 8)⟩, ⟨(some 21), none, .mov (.tmp 6)⟩, ⟨(some 22), none, .bin false .add (.tmp 20) (.tmp 21)⟩, ⟨(some 8), none, .mov (.tmp 22)⟩]
def pslices_stableCmpFunc_Holdl6 : AC := (.keep [] [(0, false), (1, false), (2, false), (6, false), (7, false), (8, false)] [(.ext 0, false)] [] [] (.seq (.seq (.ops pslices_stableCmpFunc_Holdr2) (.cond (.tmp 13) .skip (.exit 0))) (.pass 1 (.seq (.ops pslices_stableCmpFunc_Holdr3) (.seq (.ops pslices_stableCmpFunc_Holdr4) (.ops pslices_stableCmpFunc_Holdr5))))))
def pslices_stableCmpFunc_Holdr7 : List GOp := [⟨(some 23), none, .mov (.tmp 0)⟩, ⟨(some 24), none, .mov (.tmp 7)⟩, ⟨(some 25), none, .mov (.tmp 1)⟩, ⟨(some 26), none, .mov (.tmp 2)⟩, ⟨(some 27), none, .call 0 2 (.cst (.fn 120)) [(.tmp 23), (.tmp 24), (.tmp 25), (.tmp 26)] [] [.ext 0]⟩]
def pslices_stableCmpFunc_Holdr8 : List GOp := [⟨(some 28), none, .mov (.tmp 6)⟩, ⟨(some 29), none, .mov (.tmp 1)⟩, ⟨(some 30), none, .bin false .lss (.tmp 28) (.tmp 29)⟩]
def pslices_stableCmpFunc_Holdr9 : List GOp := [⟨(some 31), none, .mov (.tmp 6)⟩, ⟨(some 32), none, .bin false .mul (.cst (.int .i64 2)) (.tmp 31)⟩, ⟨(some 7), none, .mov (.cst (.int .i64 0))⟩, ⟨(some 8), none, .mov (.tmp 32)⟩]
def pslices_stableCmpFunc_Holdr10 : List GOp := [⟨(some 33), none, .mov (.tmp 8)⟩, ⟨(some 34), none, .mov (.tmp 1)⟩, ⟨(some 35), none, .bin false .leq (.tmp 33) (.tmp 34)⟩]
def pslices_stableCmpFunc_Holdr11 : List GOp := [⟨(some 36), none, .mov (.tmp 0)⟩, ⟨(some 37), none, .mov (.tmp 7)⟩, ⟨(some 38), none, .mov (.tmp 7)⟩, ⟨(some 39), none, .mov (.tmp 6)⟩, ⟨(some 40), none, .bin false .add (.tmp 38) (.tmp 39)⟩, ⟨(some 41), none, .mov (.tmp 8)⟩, ⟨(some 42), none, .mov (.tmp 2)⟩, ⟨(some 43), none, .call 0 2 (.cst (.fn 121)) [(.tmp 36), (.tmp 37), (.tmp 40), (.tmp 41), (.tmp 42)] [] [.ext 0]⟩]
def pslices_stableCmpFunc_Holdr12 : List GOp := [⟨(some 44), none, .mov (.tmp 8)⟩, ⟨(some 7), none, .mov (.tmp 44)⟩]
def pslices_stableCmpFunc_Holdr13 : List GOp := [⟨(some 45), none, .mov (.tmp 8)⟩, ⟨(some 46), none, .mov (.tmp 6)⟩, ⟨(some 47), none, .bin false .mul (.cst (.int .i64 2)) (.tmp 46)⟩, ⟨(some 48), none, .bin false .add (.tmp 45) (.tmp 47)⟩, ⟨(some 8), none, .mov (.tmp 48)⟩]
def pslices_stableCmpFunc_Holdl14 : AC := (.keep [] [(0, false), (1, false), (2, false), (6, false), (7, false), (8, false)] [(.ext 0, false)] [] [] (.seq (.seq (.ops pslices_stableCmpFunc_Holdr10) (.cond (.tmp 35) .skip (.exit 4))) (.pass 5 (.seq (.ops pslices_stableCmpFunc_Holdr11) (.seq (.ops pslices_stableCmpFunc_Holdr12) (.ops pslices_stableCmpFunc_Holdr13))))))
def pslices_stableCmpFunc_Holdr15 : List GOp := [⟨(some 49), none, .mov (.tmp 7)⟩, ⟨(some 50), none, .mov (.tmp 6)⟩, ⟨(some 51), none, .bin false .add (.tmp 49) (.tmp 50)⟩, ⟨(some 9), none, .mov (.tmp 51)⟩]
def pslices_stableCmpFunc_Holdr16 : List GOp := [⟨(some 52), none, .mov (.tmp 9)⟩, ⟨(some 53), none, .mov (.tmp 1)⟩, ⟨(some 54), none, .bin false .lss (.tmp 52) (.tmp 53)⟩]
def pslices_stableCmpFunc_Holdr17 : List GOp := [⟨(some 55), none, .mov (.tmp 0)⟩, ⟨(some 56), none, .mov (.tmp 7)⟩, ⟨(some 57), none, .mov (.tmp 9)⟩, ⟨(some 58), none, .mov (.tmp 1)⟩, ⟨(some 59), none, .mov (.tmp 2)⟩, ⟨(some 60), none, .call 0 2 (.cst (.fn 121)) [(.tmp 55), (.tmp 56), (.tmp 57), (.tmp 58), (.tmp 59)] [] [.ext 0]⟩]
def pslices_stableCmpFunc_Holdr18 : List GOp := [⟨(some 61), none, .mov (.tmp 6)⟩, ⟨(some 62), none, .bin false .mul (.tmp 61) (.cst (.int .i64 2))⟩, ⟨(some 6), none, .mov (.tmp 62)⟩]
def pslices_stableCmpFunc_Holdl19 : AC := (.keep [] [(0, false), (1, false), (2, false), (6, false)] [(.ext 0, false)] [] [] (.seq (.seq (.ops pslices_stableCmpFunc_Holdr8) (.cond (.tmp 30) .skip (.keep [] [] [(.ext 0, false)] [] [] (.exit 2)))) (.pass 3 (.seq (.ops pslices_stableCmpFunc_Holdr9) (.seq (.block 4 (.loop [0, 1, 2, 6, 7, 8] [] pslices_stableCmpFunc_Holdl14)) (.seq (.seq (.keep [] [(0, false), (1, false), (2, false), (6, false), (7, false)] [(.ext 0, false)] [] [] (.ops pslices_stableCmpFunc_Holdr15)) (.seq (.ops pslices_stableCmpFunc_Holdr16) (.cond (.tmp 54) (.ops pslices_stableCmpFunc_Holdr17) .skip))) (.keep [] [(0, false), (1, false), (2, false), (6, false)] [(.ext 0, false)] [] [] (.ops pslices_stableCmpFunc_Holdr18))))))))
def pslices_stableCmpFunc_Holdb : AC := (.seq (.ops pslices_stableCmpFunc_Holdr0) (.seq (.ops pslices_stableCmpFunc_Holdr1) (.seq (.block 0 (.loop [0, 1, 2, 6, 7, 8] [] pslices_stableCmpFunc_Holdl6)) (.seq (.keep [] [(0, false), (1, false), (2, false), (6, false), (7, false)] [(.ext 0, false)] [] [] (.ops pslices_stableCmpFunc_Holdr7)) (.block 2 (.loop [0, 1, 2, 6] [] pslices_stableCmpFunc_Holdl19))))))
def pslices_stableCmpFunc_Hold : Fd := ⟨3, [], [], pslices_stableCmpFunc_Holdb⟩
theorem pslices_stableCmpFunc_Hold_ag : agreeF Try.prog Try.f108 pslices_stableCmpFunc_Hold = true := by kernel_rfl
theorem slices_stableCmpFunc_Hold_ok {n1 : Int} {l2 : List T_api_Hold} {r : List T_api_Hold} (h : slices_stableCmpFunc_Hold n1 l2 = some r) : Contract Try.prog 108 [.own (.ext 0), .pv (.int .i64 n1), .pv (.fn 79)] [.row 9 (List.map T_api_Hold.pv l2)] ⟨.tup [], [], [(some (.row 9 (List.map T_api_Hold.pv r)))]⟩ := by
  refine contract_fin hm Try.func108 pslices_stableCmpFunc_Hold_ag (by kernel_rfl) ?_
  unfold slices_stableCmpFunc_Hold at h
  refine W.seqOps (RunR.all (by kernel_rfl)) ?_
  refine W.seqOps (RunR.all (by kernel_rfl)) ?_
  replace h := bindS h
  obtain ⟨j3, hj3, h⟩ := h
  refine W.join (j := j3) (fun p σ => σ.tidy [] [(0, false), (1, false), (2, false), (6, false), (7, false)] [(.ext 0, false)] [] [] = ⟨[(0, .own (.ext 0)), (1, .pv (.int .i64 n1)), (2, .pv (.fn 79)), (6, .pv (.int .i64 20)), (7, .pv (.int .i64 p.1))], [(.ext 0, .row 9 (List.map T_api_Hold.pv p.2))]⟩) ?_ (fun σj3 hsj3 => ?_)
  · refine W.blockLoop (fun q σ => ((σ.forget [0, 1, 2, 6, 7, 8]).killAll []).tidy [] [(0, false), (1, false), (2, false), (6, false), (7, false), (8, false)] [(.ext 0, false)] [] [] = ⟨[(0, .own (.ext 0)), (1, .pv (.int .i64 n1)), (2, .pv (.fn 79)), (6, .pv (.int .i64 20)), (7, .pv (.int .i64 q.1)), (8, .pv (.int .i64 q.2.1))], [(.ext 0, .row 9 (List.map T_api_Hold.pv q.2.2))]⟩) hj3 ?_ ?_
    · show _ = _
      kernel_rfl
    · intro q σj3 oj3 hJj3 h
      obtain ⟨a4, b5, row6⟩ := q
      refine W.keep hJj3 ?_
      refine W.assoc ?_
      refine W.seqOps (RunR.all (by kernel_rfl)) ?_
      refine W.seqCond (t := decide (b5 ≤ n1)) (by kernel_rfl) h (fun hc h' => ?_) (fun hc h' => ?_)
      · replace h := h'
        refine W.seqSkip ?_
        refine W.pass ?_
        replace h := bindS h
        obtain ⟨x7, hx7, h⟩ := h
        refine W.seqOps (RunR.stat 4 (by kernel_rfl) (RunR.cons (tab_cons (on := true) (fun _ => slices_insertionSortCmpFunc_Hold_ok hx7) tab_nil) (Step.callG (g := 120) (caps := []) (v := .tup []) (ins := []) rfl (by kernel_rfl) (by kernel_rfl) (by kernel_rfl) (tab_hit (by kernel_rfl)) (by kernel_rfl) (by kernel_rfl)) ((.nil _)))) ?_
        refine W.seqOps (RunR.all (by kernel_rfl)) ?_
        refine W.ops (RunR.all (by kernel_rfl)) ?_
        cases h
        exact (outw_in (by (show _ = _); kernel_rfl))
      · replace h := h'
        cases h
        exact W.seqExit ((outw_out exit_ne (bnorm_x (by (show _ = _); kernel_rfl))))
  · obtain ⟨a8, row9⟩ := j3
    refine W.seqKeep hsj3 ?_
    replace h := bindS h
    obtain ⟨x10, hx10, h⟩ := h
    refine W.seqOps (RunR.stat 4 (by kernel_rfl) (RunR.cons (tab_cons (on := true) (fun _ => slices_insertionSortCmpFunc_Hold_ok hx10) tab_nil) (Step.callG (g := 120) (caps := []) (v := .tup []) (ins := []) rfl (by kernel_rfl) (by kernel_rfl) (by kernel_rfl) (tab_hit (by kernel_rfl)) (by kernel_rfl) (by kernel_rfl)) ((.nil _)))) ?_
    replace h := bindS h
    obtain ⟨j11, hj11, h⟩ := h
    refine W.mono (Q := NormW (fun p σ => σ = ⟨[], [(.ext 0, .row 9 (List.map T_api_Hold.pv p))]⟩) j11) ?_ (fun ex σj11 hp => ?_)
    · refine W.blockLoop (fun q σ => ((σ.forget [0, 1, 2, 6]).killAll []).tidy [] [(0, false), (1, false), (2, false), (6, false)] [(.ext 0, false)] [] [] = ⟨[(0, .own (.ext 0)), (1, .pv (.int .i64 n1)), (2, .pv (.fn 79)), (6, .pv (.int .i64 q.1))], [(.ext 0, .row 9 (List.map T_api_Hold.pv q.2))]⟩) hj11 ?_ ?_
      · show _ = _
        kernel_rfl
      · intro q σj11 oj11 hJj11 h
        obtain ⟨blockSize12, row13⟩ := q
        refine W.keep hJj11 ?_
        refine W.assoc ?_
        refine W.seqOps (RunR.all (by kernel_rfl)) ?_
        refine W.seqCond (t := decide (blockSize12 < n1)) (by kernel_rfl) h (fun hc h' => ?_) (fun hc h' => ?_)
        · replace h := h'
          refine W.seqSkip ?_
          refine W.pass ?_
          refine W.seqOps (RunR.all (by kernel_rfl)) ?_
          replace h := bindS h
          obtain ⟨j14, hj14, h⟩ := h
          refine W.join (j := j14) (fun p σ => σ.tidy [] [(0, false), (1, false), (2, false), (6, false), (7, false)] [(.ext 0, false)] [] [] = ⟨[(0, .own (.ext 0)), (1, .pv (.int .i64 n1)), (2, .pv (.fn 79)), (6, .pv (.int .i64 blockSize12)), (7, .pv (.int .i64 p.1))], [(.ext 0, .row 9 (List.map T_api_Hold.pv p.2))]⟩) ?_ (fun σj14 hsj14 => ?_)
          · refine W.blockLoop (fun q σ => ((σ.forget [0, 1, 2, 6, 7, 8]).killAll []).tidy [] [(0, false), (1, false), (2, false), (6, false), (7, false), (8, false)] [(.ext 0, false)] [] [] = ⟨[(0, .own (.ext 0)), (1, .pv (.int .i64 n1)), (2, .pv (.fn 79)), (6, .pv (.int .i64 blockSize12)), (7, .pv (.int .i64 q.1)), (8, .pv (.int .i64 q.2.1))], [(.ext 0, .row 9 (List.map T_api_Hold.pv q.2.2))]⟩) hj14 ?_ ?_
            · show _ = _
              kernel_rfl
            · intro q σj14 oj14 hJj14 h
              obtain ⟨a15, b16, row17⟩ := q
              refine W.keep hJj14 ?_
              refine W.assoc ?_
              refine W.seqOps (RunR.all (by kernel_rfl)) ?_
              refine W.seqCond (t := decide (b16 ≤ n1)) (by kernel_rfl) h (fun hc h' => ?_) (fun hc h' => ?_)
              · replace h := h'
                refine W.seqSkip ?_
                refine W.pass ?_
                replace h := bindS h
                obtain ⟨x18, hx18, h⟩ := h
                refine W.seqOps (RunR.stat 7 (by kernel_rfl) (RunR.cons (tab_cons (on := true) (fun _ => slices_symMergeCmpFunc_Hold_ok hx18) tab_nil) (Step.callG (g := 121) (caps := []) (v := .tup []) (ins := []) rfl (by kernel_rfl) (by kernel_rfl) (by kernel_rfl) (tab_hit (by kernel_rfl)) (by kernel_rfl) (by kernel_rfl)) ((.nil _)))) ?_
                refine W.seqOps (RunR.all (by kernel_rfl)) ?_
                refine W.ops (RunR.all (by kernel_rfl)) ?_
                cases h
                exact (outw_in (by (show _ = _); kernel_rfl))
              · replace h := h'
                cases h
                exact W.seqExit ((outw_out exit_ne (bnorm_x (by (show _ = _); kernel_rfl))))
          · obtain ⟨a19, row20⟩ := j14
            refine W.assoc ?_
            refine W.seqKeep hsj14 ?_
            refine W.seqOps (RunR.all (by kernel_rfl)) ?_
            refine W.assoc ?_
            refine W.seqOps (RunR.all (by kernel_rfl)) ?_
            replace h := bindS h
            obtain ⟨j21, hj21, h⟩ := h
            refine W.join (j := j21) (fun p σ => σ.tidy [] [(0, false), (1, false), (2, false), (6, false)] [(.ext 0, false)] [] [] = ⟨[(0, .own (.ext 0)), (1, .pv (.int .i64 n1)), (2, .pv (.fn 79)), (6, .pv (.int .i64 blockSize12))], [(.ext 0, .row 9 (List.map T_api_Hold.pv p))]⟩) ?_ (fun σj21 hsj21 => ?_)
            · replace h := hj21
              refine W.condI (t := decide ((IntKind.wrap .i64 (a19 + blockSize12)) < n1)) (by kernel_rfl) h (fun hc h' => ?_) (fun hc h' => ?_)
              · replace h := h'
                replace h := bindS h
                obtain ⟨x22, hx22, h⟩ := h
                refine W.ops (RunR.stat 5 (by kernel_rfl) (RunR.cons (tab_cons (on := true) (fun _ => slices_symMergeCmpFunc_Hold_ok hx22) tab_nil) (Step.callG (g := 121) (caps := []) (v := .tup []) (ins := []) rfl (by kernel_rfl) (by kernel_rfl) (by kernel_rfl) (tab_hit (by kernel_rfl)) (by kernel_rfl) (by kernel_rfl)) ((.nil _)))) ?_
                cases h
                exact (normw (by (show _ = _); kernel_rfl))
              · replace h := h'
                cases h
                exact W.skip ((normw (by (show _ = _); kernel_rfl)))
            · refine W.keep hsj21 ?_
              refine W.ops (RunR.all (by kernel_rfl)) ?_
              cases h
              exact (outw_in (by (show _ = _); kernel_rfl))
        · replace h := h'
          refine W.seqKeep rfl ?_
          cases h
          exact W.seqExit ((outw_out exit_ne (bnorm_x (by (show _ = _); kernel_rfl))))
    · obtain ⟨rfl, hs⟩ := hp
      subst hs
      cases h
      exact (fin_norm (by kernel_rfl))
def pslices_SortStableFunc_Hold_Holdr0 : List GOp := [⟨(some 4), none, .mov (.tmp 0)⟩, ⟨(some 5), none, .mov (.tmp 0)⟩, ⟨(some 6), none, .len false (.tmp 5)⟩, ⟨(some 7), none, .mov (.tmp 1)⟩, ⟨(some 8), none, .call 0 2 (.cst (.fn 108)) [(.tmp 4), (.tmp 6), (.tmp 7)] [] [.ext 0]⟩]
def pslices_SortStableFunc_Hold_Holdb : AC := (.ops pslices_SortStableFunc_Hold_Holdr0)
def pslices_SortStableFunc_Hold_Hold : Fd := ⟨2, [], [], pslices_SortStableFunc_Hold_Holdb⟩
theorem pslices_SortStableFunc_Hold_Hold_ag : agreeF Try.prog Try.f78 pslices_SortStableFunc_Hold_Hold = true := by kernel_rfl
theorem slices_SortStableFunc_Hold_Hold_ok {l1 : List T_api_Hold} {r : List T_api_Hold} (h : slices_SortStableFunc_Hold_Hold l1 = some r) : Contract Try.prog 78 [.own (.ext 0), .pv (.fn 79)] [.row 9 (List.map T_api_Hold.pv l1)] ⟨.tup [], [], [(some (.row 9 (List.map T_api_Hold.pv r)))]⟩ := by
  refine contract_fin hm Try.func78 pslices_SortStableFunc_Hold_Hold_ag (by kernel_rfl) ?_
  unfold slices_SortStableFunc_Hold_Hold at h
  replace h := bindS h
  obtain ⟨x2, hx2, h⟩ := h
  refine W.ops (RunR.stat 2 (by kernel_rfl) (RunR.dyn (Step.lenT (f := T_api_Hold.pv) (l := l1) (by kernel_rfl)) (RunR.stat 1 (by kernel_rfl) (RunR.cons (tab_cons (on := true) (fun _ => slices_stableCmpFunc_Hold_ok hx2) tab_nil) (Step.callG (g := 108) (caps := []) (v := .tup []) (ins := []) rfl (by kernel_rfl) (by kernel_rfl) (by kernel_rfl) (tab_hit (by kernel_rfl)) (by kernel_rfl) (by kernel_rfl)) ((.nil _)))))) ?_
  cases h
  exact (fin_norm (by kernel_rfl))
def phold_Coverr0 : List GOp := [⟨(some 10), none, .mov .nils⟩, ⟨(some 11), none, .mov (.cst (.int .i64 0))⟩]
def phold_Coverr1 : List GOp := [⟨(some 19), none, .mov (.tmp 0)⟩, ⟨(some 20), none, .call 0 0 (.cst (.fn 36)) [(.tmp 19)] [] []⟩, ⟨(some 12), none, .mov (.tmp 20)⟩]
def phold_Coverr2 : List GOp := [⟨(some 21), none, .mov (.tmp 12)⟩, ⟨(some 22), none, .bin false .neq (.tmp 21) (.cst (.int .i64 0))⟩]
def phold_Coverr3 : List GOp := [⟨(some 23), none, .mov (.tmp 12)⟩, ⟨(some 10), none, .mov .nils⟩, ⟨(some 11), none, .mov (.tmp 23)⟩]
def phold_Coverr4 : List GOp := [⟨(some 24), none, .mov (.tmp 0)⟩, ⟨(some 25), none, .mov (.tmp 1)⟩, ⟨(some 26), none, .mov (.tmp 2)⟩, ⟨(some 27), none, .mov (.tmp 3)⟩, ⟨(some 28), none, .call 1 0 (.cst (.fn 76)) [(.tmp 24), (.tmp 25), (.tmp 26), (.tmp 27)] [] []⟩, ⟨(some 29), none, .call 1 0 (.cst (.fn 77)) [(.tmp 28)] [] []⟩, ⟨(some 13), none, .mov (.tmp 29)⟩]
def phold_Coverr5 : List GOp := [⟨(some 30), none, .mov (.tmp 13)⟩, ⟨(some 31), none, .call 0 2 (.cst (.fn 78)) [(.tmp 30), (.cst (.fn 79))] [] [.loc 29 0]⟩]
def phold_Coverr6 : List GOp := [⟨(some 32), none, .mov (.tmp 4)⟩, ⟨(some 33), none, .mm true (.tmp 32) [(.cst (.int .i64 0))]⟩, ⟨(some 14), none, .mov (.tmp 33)⟩]
def phold_Coverr7 : List GOp := [⟨(some 15), none, .mov .nils⟩]
def phold_Coverr8 : List GOp := [⟨(some 34), none, .mov (.tmp 13)⟩, ⟨(some 35), none, .len false (.tmp 34)⟩, ⟨(some 36), none, .mov (.cst (.int .i64 0))⟩]
def phold_Coverr9 : List GOp := [⟨(some 37), none, .bin false .lss (.tmp 36) (.tmp 35)⟩]
def phold_Coverr10 : List GOp := [⟨(some 38), none, .idx 9 (.tmp 34) (.tmp 36)⟩, ⟨(some 39), none, .load true 9 (.tmp 38)⟩, ⟨(some 17), none, .alloc [.pv (.int .i64 0), .pv (.int .i64 0), .pv (.int .i64 0), .pv (.int .i64 0), .pv (.int .i64 0), .pv (.int .i32 0), .pv (.int .i32 0), .pv (.int .i64 0), .pv (.bool false)]⟩, ⟨none, none, .store 9 (.tmp 17) (.tmp 39)⟩]
def phold_Coverr11 : List GOp := [⟨(some 40), none, .mov (.tmp 14)⟩, ⟨(some 41), none, .load true 9 (.tmp 17)⟩, ⟨(some 42), none, .mov (.tmp 3)⟩, ⟨(some 43), none, .call 0 0 (.cst (.fn 42)) [(.tmp 41), (.tmp 42)] [] []⟩, ⟨(some 44), none, .mm false (.tmp 40) [(.tmp 43)]⟩, ⟨(some 18), none, .mov (.tmp 44)⟩]
def phold_Coverr12 : List GOp := [⟨(some 45), none, .mov (.tmp 14)⟩, ⟨(some 46), none, .mov (.tmp 18)⟩, ⟨(some 47), none, .bin false .sub (.tmp 45) (.tmp 46)⟩, ⟨(some 14), none, .mov (.tmp 47)⟩]
def phold_Coverr13 : List GOp := [⟨(some 48), none, .mov (.tmp 15)⟩, ⟨(some 49), none, .fld 0 (.tmp 17)⟩, ⟨(some 50), none, .load false 1 (.tmp 49)⟩, ⟨(some 51), none, .mov (.tmp 18)⟩, ⟨(some 52), none, .build [.pv (.int .i64 0), .pv (.int .i64 0)] [(0, 1, (.tmp 50)), (1, 1, (.tmp 51))]⟩, ⟨(some 53), none, .lit false 2 [(.tmp 52)]⟩, ⟨(some 54), none, .append 15 2 16 (.tmp 48) (.tmp 53)⟩, ⟨(some 15), none, .mov (.tmp 54)⟩]
def phold_Coverr14 : List GOp := [⟨(some 55), none, .bin false .add (.tmp 36) (.cst (.int .i64 1))⟩, ⟨(some 36), none, .mov (.tmp 55)⟩]
def phold_Coverl15 : AC := (.keep [.loc 29 0] [(3, false), (14, false), (15, false), (34, true), (35, false), (36, false)] [(.loc 15 0, false)] [.loc 17 0] [.slot 15 (.loc 15 0) 2] (.seq (.ops phold_Coverr9) (.seq (.cond (.tmp 37) .skip (.exit 0)) (.seq (.pass 1 (.seq (.ops phold_Coverr10) (.seq (.ops phold_Coverr11) (.seq (.ops phold_Coverr12) (.ops phold_Coverr13))))) (.ops phold_Coverr14)))))
def phold_Coverr16 : List GOp := [⟨(some 56), none, .mov (.tmp 15)⟩, ⟨(some 10), none, .mov (.tmp 56)⟩, ⟨(some 11), none, .mov (.cst (.int .i64 0))⟩]
def phold_Coverb : AC := (.seq (.ops phold_Coverr0) (.seq (.seq (.ops phold_Coverr1) (.seq (.ops phold_Coverr2) (.cond (.tmp 22) (.seq (.ops phold_Coverr3) (.keep [] [(10, true), (11, false)] [] [] [] .ret)) .skip))) (.seq (.ops phold_Coverr4) (.seq (.ops phold_Coverr5) (.seq (.ops phold_Coverr6) (.seq (.ops phold_Coverr7) (.seq (.seq (.ops phold_Coverr8) (.block 0 (.loop [3, 14, 15, 34, 35, 36] [] phold_Coverl15))) (.seq (.keep [.loc 15 0] [(15, true)] [] [.loc 29 0] [] (.ops phold_Coverr16)) (.keep [] [(10, true), (11, false)] [] [] [] .ret)))))))))
def phold_Cover : Fd := ⟨5, [.tmp 10, .tmp 11], [], phold_Coverb⟩
theorem phold_Cover_ag : agreeF Try.prog Try.f38 phold_Cover = true := by kernel_rfl
theorem hold_Cover_ok {l1 : List T_api_Hold} {acc2 : Int} {cur3 : Int} {now4 : Int} {funds5 : Int} {r : (List T_api_Covered) × Int} (h : hold_Cover l1 acc2 cur3 now4 funds5 = some r) : Contract Try.prog 38 [.pv (.slice (List.map T_api_Hold.pv l1)), .pv (.int .i64 acc2), .pv (.int .i64 cur3), .pv (.int .i32 now4), .pv (.int .i64 funds5)] [] ⟨.tup [.pv (.slice (List.map T_api_Covered.pv r.1)), .pv (.int .i64 r.2)], [], []⟩ := by
  refine contract_fin hm Try.func38 phold_Cover_ag (by kernel_rfl) ?_
  unfold hold_Cover at h
  refine W.seqOps (RunR.all (by kernel_rfl)) ?_
  refine W.assoc ?_
  replace h := bindS h
  obtain ⟨x6, hx6, h⟩ := h
  refine W.seqOps (RunR.stat 1 (by kernel_rfl) (RunR.cons (tab_cons (on := true) (fun _ => hold_Check_ok hx6) tab_nil) (Step.call0 (g := 36) (caps := []) (v := .pv (.int .i64 x6)) (by kernel_rfl) (by kernel_rfl) (by kernel_rfl) (tab_hit (by kernel_rfl)) (by kernel_rfl)) (RunR.all (by kernel_rfl)))) ?_
  refine W.assoc ?_
  refine W.seqOps (RunR.all (by kernel_rfl)) ?_
  refine W.seqCond (t := (x6 != 0)) (by kernel_rfl) h (fun hc h' => ?_) (fun hc h' => ?_)
  · replace h := h'
    refine W.assoc ?_
    refine W.seqOps (RunR.all (by kernel_rfl)) ?_
    refine W.seqKeep rfl ?_
    cases h
    exact W.seqRet ((fin_ret (by kernel_rfl)))
  · replace h := h'
    refine W.seqSkip ?_
    replace h := bindS h
    obtain ⟨x7, hx7, h⟩ := h
    refine W.seqOps (RunR.stat 4 (by kernel_rfl) (RunR.cons (tab_cons (on := true) (fun _ => those_bare (l := (List.map T_api_Hold.pv l1)) (acc := acc2) (cur := cur3) (now := now4)) tab_nil) (Step.callS (g := 76) (caps := []) (v := .fn 106 [.ipv (.agg [.slice (List.map T_api_Hold.pv l1)]) 0, .ipv (.agg [.int .i64 acc2]) 0, .ipv (.agg [.int .i64 cur3]) 0, .ipv (.agg [.int .i32 now4]) 0]) (ins := []) (by kernel_rfl) (by kernel_rfl) (by kernel_rfl) (tab_hit (by kernel_rfl)) (by kernel_rfl)) (RunR.cons (tab_cons (on := true) (fun _ => hold_collect_ok hx7) tab_nil) (Step.callS (g := 77) (caps := []) (v := .own (.loc 29 0)) (ins := [(.loc 29 0, .row 9 (List.map T_api_Hold.pv x7))]) (by kernel_rfl) (by kernel_rfl) (by kernel_rfl) (tab_hit (by kernel_rfl)) (by kernel_rfl)) (RunR.all (by kernel_rfl))))) ?_
    replace h := bindS h
    obtain ⟨x8, hx8, h⟩ := h
    refine W.seqOps (RunR.stat 1 (by kernel_rfl) (RunR.cons (tab_cons (on := true) (fun _ => slices_SortStableFunc_Hold_Hold_ok hx8) tab_nil) (Step.callG (g := 78) (caps := []) (v := .tup []) (ins := []) rfl (by kernel_rfl) (by kernel_rfl) (by kernel_rfl) (tab_hit (by kernel_rfl)) (by kernel_rfl) (by kernel_rfl)) ((.nil _)))) ?_
    refine W.seqOps (RunR.all (by kernel_rfl)) ?_
    refine W.seqOps (RunR.all (by kernel_rfl)) ?_
    refine W.assoc ?_
    refine W.seqOps (RunR.stat 1 (by kernel_rfl) (RunR.dyn (Step.lenT (f := T_api_Hold.pv) (l := x8) (by kernel_rfl)) (RunR.all (by kernel_rfl)))) ?_
    replace h := bindS h
    obtain ⟨j9, hj9, h⟩ := h
    refine W.join (j := j9) (fun p σ => σ.tidy [.loc 15 0] [(15, true)] [] [.loc 29 0] [] = ⟨[(15, .pv (.slice (List.map T_api_Covered.pv p)))], []⟩) ?_ (fun σj9 hsj9 => ?_)
    · refine W.blockLoop (fun q σ => ((σ.forget [3, 14, 15, 34, 35, 36]).killAll []).tidy [.loc 29 0] [(3, false), (14, false), (15, false), (34, true), (35, false), (36, false)] [(.loc 15 0, false)] [.loc 17 0] [.slot 15 (.loc 15 0) 2] = ⟨[(3, .pv (.int .i32 now4)), (14, .pv (.int .i64 q.1)), (15, .own (.loc 15 0)), (34, .pv (.slice (List.map T_api_Hold.pv q.2.1))), (35, .pv (.int .i64 (x8.length : Int))), (36, .pv (.int .i64 q.2.2.1))], [(.loc 15 0, .row 2 (List.map T_api_Covered.pv q.2.2.2))]⟩) hj9 ?_ ?_
      · show _ = _
        kernel_rfl
      · intro q σj9 oj9 hJj9 h
        obtain ⟨left10, x11, x12, row13⟩ := q
        refine W.keep hJj9 ?_
        refine W.seqOps (RunR.all (by kernel_rfl)) ?_
        refine W.seqCond (t := decide (x12 < (x8.length : Int))) (by kernel_rfl) h (fun hc h' => ?_) (fun hc h' => ?_)
        · replace h := h'
          refine W.seqSkip ?_
          refine W.seqPass ?_
          refine W.assoc ?_
          replace h := bindS h
          obtain ⟨x14, hx14, h⟩ := h
          refine W.seqOps (RunR.dyn (Step.idxT (f := T_api_Hold.pv) (l := x11) (n := x12) (e := x14) (k := .i64) (by kernel_rfl) (by kernel_rfl) hx14 (by kernel_rfl)) (RunR.all (by kernel_rfl))) ?_
          refine W.assoc ?_
          replace h := bindS h
          obtain ⟨x15, hx15, h⟩ := h
          refine W.seqOps (RunR.stat 3 (by kernel_rfl) (RunR.cons (tab_cons (on := true) (fun _ => hold_Rest_ok hx15) tab_nil) (Step.call0 (g := 42) (caps := []) (v := .pv (.int .i64 x15)) (by kernel_rfl) (by kernel_rfl) (by kernel_rfl) (tab_hit (by kernel_rfl)) (by kernel_rfl)) (RunR.all (by kernel_rfl)))) ?_
          refine W.assoc ?_
          refine W.seqOps (RunR.all (by kernel_rfl)) ?_
          replace h := bindS h
          obtain ⟨x16, hx16, h⟩ := h
          refine W.seqOps (RunR.stat 6 (by kernel_rfl) (RunR.dyn (Step.appendOwnT (k := .loc 15 0) (f := T_api_Covered.pv) (l := row13) (m := [(⟨x14.f_ID, (if x15 < left10 then x15 else left10)⟩ : T_api_Covered)]) (by kernel_rfl) (by kernel_rfl) (by kernel_rfl) hx16 (fun _ => rfl) (by kernel_rfl)) (RunR.all (by kernel_rfl)))) ?_
          refine W.ops (RunR.all (by kernel_rfl)) ?_
          cases h
          exact (outw_in (by (show _ = _); kernel_rfl))
        · replace h := h'
          cases h
          exact W.seqExit ((outw_out exit_ne (bnorm_x (by (show _ = _); kernel_rfl))))
    · refine W.seqKeep hsj9 ?_
      refine W.seqOps (RunR.all (by kernel_rfl)) ?_
      refine W.keep rfl ?_
      cases h
      exact W.ret ((fin_ret (by kernel_rfl)))
def phold_Releaser0 : List GOp := [⟨(some 4), none, .mov .nils⟩, ⟨(some 5), none, .mov (.cst (.int .i64 0))⟩]
def phold_Releaser1 : List GOp := [⟨(some 10), none, .mov (.tmp 0)⟩, ⟨(some 11), none, .call 0 0 (.cst (.fn 36)) [(.tmp 10)] [] []⟩, ⟨(some 6), none, .mov (.tmp 11)⟩]
def phold_Releaser2 : List GOp := [⟨(some 12), none, .mov (.tmp 6)⟩, ⟨(some 13), none, .bin false .neq (.tmp 12) (.cst (.int .i64 0))⟩]
def phold_Releaser3 : List GOp := [⟨(some 14), none, .mov (.tmp 6)⟩, ⟨(some 4), none, .mov .nils⟩, ⟨(some 5), none, .mov (.tmp 14)⟩]
def phold_Releaser4 : List GOp := [⟨(some 16), none, .mov (.tmp 0)⟩, ⟨(some 17), none, .mov (.tmp 1)⟩, ⟨(some 18), none, .call 0 0 (.cst (.fn 82)) [(.tmp 16), (.tmp 17)] [] []⟩, ⟨(some 15), none, .mov (.tmp 18)⟩, ⟨(some 19), none, .ext 0 (.tmp 15)⟩, ⟨(some 20), none, .ext 1 (.tmp 15)⟩, ⟨(some 7), none, .mov (.tmp 19)⟩, ⟨(some 8), none, .mov (.tmp 20)⟩]
def phold_Releaser5 : List GOp := [⟨(some 22), none, .mov (.tmp 8)⟩, ⟨(some 23), none, .un .not (.tmp 22)⟩, ⟨(some 21), none, .mov (.tmp 23)⟩]
def phold_Releaser6 : List GOp := [⟨(some 4), none, .mov .nils⟩, ⟨(some 5), none, .mov (.cst (.int .i64 8))⟩]
def phold_Releaser7 : List GOp := [⟨(some 25), none, .mov (.tmp 0)⟩, ⟨(some 26), none, .mov (.tmp 7)⟩, ⟨(some 27), none, .idx 9 (.tmp 25) (.tmp 26)⟩, ⟨(some 28), none, .fld 8 (.tmp 27)⟩, ⟨(some 29), none, .load false 1 (.tmp 28)⟩, ⟨(some 24), none, .mov (.tmp 29)⟩]
def phold_Releaser8 : List GOp := [⟨(some 4), none, .mov .nils⟩, ⟨(some 5), none, .mov (.cst (.int .i64 23))⟩]
def phold_Releaser9 : List GOp := [⟨(some 30), none, .mov (.tmp 0)⟩, ⟨(some 31), none, .call 1 0 (.cst (.fn 84)) [(.tmp 30)] [] []⟩, ⟨(some 9), none, .mov (.tmp 31)⟩]
def phold_Releaser10 : List GOp := [⟨(some 32), none, .mov (.tmp 9)⟩, ⟨(some 33), none, .mov (.tmp 7)⟩, ⟨(some 34), none, .idx 9 (.tmp 32) (.tmp 33)⟩, ⟨(some 35), none, .fld 8 (.tmp 34)⟩, ⟨none, none, .store 1 (.tmp 35) (.cst (.bool true))⟩]
def phold_Releaser11 : List GOp := [⟨(some 36), none, .mov (.tmp 9)⟩, ⟨(some 4), none, .mov (.tmp 36)⟩, ⟨(some 5), none, .mov (.cst (.int .i64 0))⟩]
def phold_Releaseb : AC := (.seq (.ops phold_Releaser0) (.seq (.seq (.ops phold_Releaser1) (.seq (.ops phold_Releaser2) (.cond (.tmp 13) (.seq (.ops phold_Releaser3) (.keep [.loc 31 0] [(4, true), (5, false)] [] [] [] .ret)) .skip))) (.seq (.ops phold_Releaser4) (.seq (.pass 0 (.seq (.ops phold_Releaser5) (.cond (.tmp 21) (.seq (.ops phold_Releaser6) (.keep [.loc 31 0] [(4, true), (5, false)] [] [] [] .ret)) (.seq (.ops phold_Releaser7) (.cond (.tmp 24) (.seq (.ops phold_Releaser8) (.keep [.loc 31 0] [(4, true), (5, false)] [] [] [] .ret)) .skip))))) (.seq (.ops phold_Releaser9) (.seq (.ops phold_Releaser10) (.seq (.ops phold_Releaser11) (.keep [.loc 31 0] [(4, true), (5, false)] [] [] [] .ret))))))))
def phold_Release : Fd := ⟨2, [.tmp 4, .tmp 5], [], phold_Releaseb⟩
theorem phold_Release_ag : agreeF Try.prog Try.f49 phold_Release = true := by kernel_rfl
theorem hold_Release_ok {l1 : List T_api_Hold} {id2 : Int} {r : (List T_api_Hold) × Int} (h : hold_Release l1 id2 = some r) : Contract Try.prog 49 [.pv (.slice (List.map T_api_Hold.pv l1)), .pv (.int .i64 id2)] [] ⟨.tup [.pv (.slice (List.map T_api_Hold.pv r.1)), .pv (.int .i64 r.2)], [], []⟩ := by
  refine contract_fin hm Try.func49 phold_Release_ag (by kernel_rfl) ?_
  unfold hold_Release at h
  refine W.seqOps (RunR.all (by kernel_rfl)) ?_
  refine W.assoc ?_
  replace h := bindS h
  obtain ⟨x3, hx3, h⟩ := h
  refine W.seqOps (RunR.stat 1 (by kernel_rfl) (RunR.cons (tab_cons (on := true) (fun _ => hold_Check_ok hx3) tab_nil) (Step.call0 (g := 36) (caps := []) (v := .pv (.int .i64 x3)) (by kernel_rfl) (by kernel_rfl) (by kernel_rfl) (tab_hit (by kernel_rfl)) (by kernel_rfl)) (RunR.all (by kernel_rfl)))) ?_
  refine W.assoc ?_
  refine W.seqOps (RunR.all (by kernel_rfl)) ?_
  refine W.seqCond (t := (x3 != 0)) (by kernel_rfl) h (fun hc h' => ?_) (fun hc h' => ?_)
  · replace h := h'
    refine W.assoc ?_
    refine W.seqOps (RunR.all (by kernel_rfl)) ?_
    refine W.seqKeep rfl ?_
    cases h
    exact W.seqRet ((fin_ret (by kernel_rfl)))
  · replace h := h'
    refine W.seqSkip ?_
    replace h := bindS h
    obtain ⟨x4, hx4, h⟩ := h
    refine W.seqOps (RunR.stat 2 (by kernel_rfl) (RunR.cons (tab_cons (on := true) (fun _ => hold_place_ok hx4) tab_nil) (Step.call0 (g := 82) (caps := []) (v := .tup [.pv (.int .i64 x4.1), .pv (.bool x4.2)]) (by kernel_rfl) (by kernel_rfl) (by kernel_rfl) (tab_hit (by kernel_rfl)) (by kernel_rfl)) (RunR.all (by kernel_rfl)))) ?_
    refine W.seqPass ?_
    refine W.assoc ?_
    refine W.seqOps (RunR.all (by kernel_rfl)) ?_
    refine W.seqCond (t := !x4.2) (by kernel_rfl) h (fun hc h' => ?_) (fun hc h' => ?_)
    · replace h := h'
      refine W.assoc ?_
      refine W.seqOps (RunR.all (by kernel_rfl)) ?_
      refine W.seqKeep rfl ?_
      cases h
      exact W.seqRet ((fin_ret (by kernel_rfl)))
    · replace h := h'
      refine W.assoc ?_
      replace h := bindS h
      obtain ⟨x5, hx5, h⟩ := h
      refine W.seqOps (RunR.stat 2 (by kernel_rfl) (RunR.dyn (Step.idxT (f := T_api_Hold.pv) (l := l1) (n := x4.1) (e := x5) (k := .i64) (by kernel_rfl) (by kernel_rfl) hx5 (by kernel_rfl)) (RunR.all (by kernel_rfl)))) ?_
      refine W.seqCond (t := x5.f_Done) (by kernel_rfl) h (fun hc h' => ?_) (fun hc h' => ?_)
      · replace h := h'
        refine W.assoc ?_
        refine W.seqOps (RunR.all (by kernel_rfl)) ?_
        refine W.seqKeep rfl ?_
        cases h
        exact W.seqRet ((fin_ret (by kernel_rfl)))
      · replace h := h'
        refine W.seqSkip ?_
        replace h := bindS h
        obtain ⟨x6, hx6, h⟩ := h
        refine W.seqOps (RunR.stat 1 (by kernel_rfl) (RunR.cons (tab_cons (on := true) (fun _ => slices_Clone84_ok hx6) tab_nil) (Step.callS (g := 84) (caps := []) (v := .own (.loc 31 0)) (ins := [(.loc 31 0, .row 9 (List.map T_api_Hold.pv x6))]) (by kernel_rfl) (by kernel_rfl) (by kernel_rfl) (tab_hit (by kernel_rfl)) (by kernel_rfl)) (RunR.all (by kernel_rfl)))) ?_
        replace h := bindS h
        obtain ⟨x7, hx7, h⟩ := h
        refine W.seqOps (RunR.stat 2 (by kernel_rfl) (RunR.dyn (Step.idxOwnT (k := .loc 31 0) (f := T_api_Hold.pv) (l := x6) (n := x4.1) (e := x7) (kd := .i64) (by kernel_rfl) (by kernel_rfl) (by kernel_rfl) hx7) (RunR.stat 1 (by kernel_rfl) (RunR.dyn (Step.storeRowT (sz := 9) (off := 8) (k := .loc 31 0) (f := T_api_Hold.pv) (l := x6) (i := x4.1) (e := x7) (e' := (⟨x7.f_ID, x7.f_Acc, x7.f_Amount, x7.f_Rank, x7.f_Made, x7.f_Until, x7.f_Taken, true⟩ : T_api_Hold)) (v := (.bool true)) (by kernel_rfl) (by kernel_rfl) (by kernel_rfl) hx7 (by kernel_rfl) (by kernel_rfl)) ((.nil _)))))) ?_
        refine W.seqOps (RunR.all (by kernel_rfl)) ?_
        refine W.keep rfl ?_
        cases h
        exact W.ret ((fin_ret (by kernel_rfl)))
def pcashbookref25_Coveredr0 : List GOp := [⟨(some 4), none, .mov (.cst (.bool false))⟩]
def pcashbookref25_Coveredr1 : List GOp := [⟨(some 6), none, .mov (.tmp 0)⟩, ⟨(some 7), none, .len false (.tmp 6)⟩, ⟨(some 8), none, .mov (.tmp 1)⟩, ⟨(some 9), none, .len false (.tmp 8)⟩, ⟨(some 10), none, .bin false .neq (.tmp 7) (.tmp 9)⟩]
def pcashbookref25_Coveredr2 : List GOp := [⟨(some 4), none, .mov (.cst (.bool false))⟩]
def pcashbookref25_Coveredr3 : List GOp := [⟨(some 5), none, .mov (.cst (.int .i64 0))⟩]
def pcashbookref25_Coveredr4 : List GOp := [⟨(some 11), none, .mov (.tmp 5)⟩, ⟨(some 12), none, .mov (.tmp 0)⟩, ⟨(some 13), none, .len false (.tmp 12)⟩, ⟨(some 14), none, .bin false .lss (.tmp 11) (.tmp 13)⟩]
def pcashbookref25_Coveredr5 : List GOp := [⟨(some 17), none, .mov (.tmp 0)⟩, ⟨(some 18), none, .mov (.tmp 5)⟩, ⟨(some 19), none, .idx 2 (.tmp 17) (.tmp 18)⟩, ⟨(some 20), none, .load true 2 (.tmp 19)⟩, ⟨(some 21), none, .mov (.tmp 1)⟩, ⟨(some 22), none, .mov (.tmp 5)⟩, ⟨(some 23), none, .idx 2 (.tmp 21) (.tmp 22)⟩, ⟨(some 24), none, .load true 2 (.tmp 23)⟩, ⟨(some 25), none, .eqs true [.i, .i] (.tmp 20) (.tmp 24)⟩]
def pcashbookref25_Coveredr6 : List GOp := [⟨(some 4), none, .mov (.cst (.bool false))⟩]
def pcashbookref25_Coveredr7 : List GOp := [⟨(some 15), none, .mov (.tmp 5)⟩, ⟨(some 16), none, .bin false .add (.tmp 15) (.cst (.int .i64 1))⟩, ⟨(some 5), none, .mov (.tmp 16)⟩]
def pcashbookref25_Coveredl8 : AC := (.keep [] [(0, false), (1, false), (5, false)] [] [] [] (.seq (.seq (.ops pcashbookref25_Coveredr4) (.cond (.tmp 14) .skip (.exit 0))) (.seq (.pass 1 (.seq (.draw [] pcashbookref25_Coveredr5) (.cond (.tmp 25) (.seq (.ops pcashbookref25_Coveredr6) (.keep [] [(4, false)] [] [] [] .ret)) .skip))) (.ops pcashbookref25_Coveredr7))))
def pcashbookref25_Coveredr9 : List GOp := [⟨(some 4), none, .mov (.cst (.bool true))⟩]
def pcashbookref25_Coveredb : AC := (.seq (.ops pcashbookref25_Coveredr0) (.seq (.seq (.ops pcashbookref25_Coveredr1) (.cond (.tmp 10) (.seq (.ops pcashbookref25_Coveredr2) (.keep [] [(4, false)] [] [] [] .ret)) .skip)) (.seq (.seq (.ops pcashbookref25_Coveredr3) (.block 0 (.loop [0, 1, 5] [] pcashbookref25_Coveredl8))) (.seq (.keep [] [] [] [] [] (.ops pcashbookref25_Coveredr9)) (.keep [] [(4, false)] [] [] [] .ret)))))
def pcashbookref25_Covered : Fd := ⟨2, [.tmp 4], [], pcashbookref25_Coveredb⟩
theorem pcashbookref25_Covered_ag : agreeF Try.prog Try.f44 pcashbookref25_Covered = true := by kernel_rfl
theorem cashbookref25_Covered_ok {a1 : List T_api_Covered} {b2 : List T_api_Covered} {r : Bool} (h : cashbookref25_Covered a1 b2 = some r) : Contract Try.prog 44 [.pv (.slice (List.map T_api_Covered.pv a1)), .pv (.slice (List.map T_api_Covered.pv b2))] [] ⟨.pv (.bool r), [], []⟩ := by
  refine contract_fin hm Try.func44 pcashbookref25_Covered_ag (by kernel_rfl) ?_
  unfold cashbookref25_Covered at h
  refine W.seqOps (RunR.all (by kernel_rfl)) ?_
  refine W.assoc ?_
  refine W.seqOps (RunR.stat 1 (by kernel_rfl) (RunR.dyn (Step.lenT (f := T_api_Covered.pv) (l := a1) (by kernel_rfl)) (RunR.stat 1 (by kernel_rfl) (RunR.dyn (Step.lenT (f := T_api_Covered.pv) (l := b2) (by kernel_rfl)) (RunR.all (by kernel_rfl)))))) ?_
  refine W.seqCond (t := ((a1.length : Int) != (b2.length : Int))) (by kernel_rfl) h (fun hc h' => ?_) (fun hc h' => ?_)
  · replace h := h'
    refine W.assoc ?_
    refine W.seqOps (RunR.all (by kernel_rfl)) ?_
    refine W.seqKeep rfl ?_
    cases h
    exact W.seqRet ((fin_ret (by kernel_rfl)))
  · replace h := h'
    refine W.seqSkip ?_
    refine W.assoc ?_
    refine W.seqOps (RunR.all (by kernel_rfl)) ?_
    replace h := bindS h
    obtain ⟨j3, hj3, h⟩ := h
    refine W.joinOut (j := j3) (o := r) (fun p σ => σ.tidy [] [] [] [] [] = ⟨[], []⟩) ?_ (fun p σj3 hp hsj3 => ?_) (fun p hp => ?_)
    · refine W.blockLoopO (fun q σ => ((σ.forget [0, 1, 5]).killAll []).tidy [] [(0, false), (1, false), (5, false)] [] [] [] = ⟨[(0, .pv (.slice (List.map T_api_Covered.pv a1))), (1, .pv (.slice (List.map T_api_Covered.pv b2))), (5, .pv (.int .i64 q))], []⟩) hj3 ?_ ?_
      · show _ = _
        kernel_rfl
      · intro i4 σj3 oj3 hJj3 h
        refine W.keep hJj3 ?_
        refine W.assoc ?_
        refine W.seqOps (RunR.stat 2 (by kernel_rfl) (RunR.dyn (Step.lenT (f := T_api_Covered.pv) (l := a1) (by kernel_rfl)) (RunR.all (by kernel_rfl)))) ?_
        refine W.seqCond (t := decide (i4 < (a1.length : Int))) (by kernel_rfl) h (fun hc h' => ?_) (fun hc h' => ?_)
        · replace h := h'
          refine W.seqSkip ?_
          refine W.seqPass ?_
          refine W.assoc ?_
          replace h := bindS h
          obtain ⟨x5, hx5, h⟩ := h
          replace h := bindS h
          obtain ⟨x6, hx6, h⟩ := h
          refine W.seqDraw tab_nil (Run.stat 2 (by kernel_rfl) (Run.dyn (Step.idxT (f := T_api_Covered.pv) (l := a1) (n := i4) (e := x5) (k := .i64) (by kernel_rfl) (by kernel_rfl) hx5 (by kernel_rfl)) (Run.stat 3 (by kernel_rfl) (Run.dyn (Step.idxT (f := T_api_Covered.pv) (l := b2) (n := i4) (e := x6) (k := .i64) (by kernel_rfl) (by kernel_rfl) hx6 (by kernel_rfl)) (Run.all (by kernel_rfl)))))) ?_
          refine W.seqCond (t := !(T_api_Covered.same x5 x6)) (by kernel_rfl) h (fun hc h' => ?_) (fun hc h' => ?_)
          · replace h := h'
            refine W.assoc ?_
            refine W.seqOps (RunR.all (by kernel_rfl)) ?_
            refine W.seqKeep rfl ?_
            cases h
            exact W.seqRet ((outw_out ret_ne (bout_o ret_ne ret_ne' (fun e => by subst e; exact (fin_ret (by kernel_rfl))))))
          · replace h := h'
            refine W.seqSkip ?_
            refine W.ops (RunR.all (by kernel_rfl)) ?_
            cases h
            exact (outw_in (by (show _ = _); kernel_rfl))
        · replace h := h'
          cases h
          exact W.seqExit ((outw_out exit_ne (bout_x (by (show _ = _); kernel_rfl))))
    · subst hp
      obtain ⟨⟩ := p
      refine W.seqKeep hsj3 ?_
      refine W.seqOps (RunR.all (by kernel_rfl)) ?_
      refine W.keep rfl ?_
      cases h
      exact W.ret ((fin_ret (by kernel_rfl)))
    · subst hp
      exact Option.some.inj h
def pcashbooklaw25_aliver0 : List GOp := [⟨(some 0), none, .mov (.cst (.bool false))⟩]
def pcashbooklaw25_aliver1 : List GOp := [⟨(some 23), none, .call 0 0 (.cst (.fn 72)) [(.cst (.int .i64 2)), (.cst (.int .i64 0))] [] []⟩, ⟨(some 24), none, .call 0 0 (.cst (.fn 72)) [(.cst (.int .i64 5)), (.cst (.int .i64 3))] [] []⟩, ⟨(some 25), none, .lit false 9 [(.tmp 23), (.tmp 24)]⟩, ⟨(some 26), none, .call 0 0 (.cst (.fn 72)) [(.cst (.int .i64 3)), (.cst (.int .i64 3))] [] []⟩, ⟨(some 27), none, .call 0 0 (.cst (.fn 47)) [(.tmp 25), (.tmp 26)] [] []⟩, ⟨(some 22), none, .mov (.tmp 27)⟩, ⟨(some 28), none, .ext 0 (.tmp 22)⟩, ⟨(some 29), none, .ext 1 (.tmp 22)⟩, ⟨(some 1), none, .mov (.tmp 28)⟩, ⟨(some 2), none, .mov (.tmp 29)⟩]
def pcashbooklaw25_aliver2 : List GOp := [⟨(some 31), none, .mov (.tmp 1)⟩, ⟨(some 32), none, .build [.pv (.int .i64 0), .pv (.int .i64 0)] [(1, 1, (.cst (.int .i64 40)))]⟩, ⟨(some 33), none, .call 0 0 (.cst (.fn 48)) [(.tmp 31), (.cst (.int .i64 3)), (.tmp 32), (.cst (.int .i32 9)), (.cst (.bool false))] [] []⟩, ⟨(some 30), none, .mov (.tmp 33)⟩, ⟨(some 34), none, .ext 0 (.tmp 30)⟩, ⟨(some 35), none, .ext 1 (.tmp 30)⟩, ⟨(some 3), none, .mov (.tmp 34)⟩, ⟨(some 4), none, .mov (.tmp 35)⟩]
def pcashbooklaw25_aliver3 : List GOp := [⟨(some 37), none, .mov (.tmp 3)⟩, ⟨(some 38), none, .build [.pv (.int .i64 0), .pv (.int .i64 0)] [(1, 1, (.cst (.int .i64 61)))]⟩, ⟨(some 39), none, .call 0 0 (.cst (.fn 48)) [(.tmp 37), (.cst (.int .i64 3)), (.tmp 38), (.cst (.int .i32 9)), (.cst (.bool false))] [] []⟩, ⟨(some 36), none, .mov (.tmp 39)⟩, ⟨(some 40), none, .ext 0 (.tmp 36)⟩, ⟨(some 41), none, .ext 1 (.tmp 36)⟩, ⟨(some 5), none, .mov (.tmp 40)⟩, ⟨(some 6), none, .mov (.tmp 41)⟩]
def pcashbooklaw25_aliver4 : List GOp := [⟨(some 43), none, .mov (.tmp 3)⟩, ⟨(some 44), none, .build [.pv (.int .i64 0), .pv (.int .i64 0)] [(1, 1, (.cst (.int .i64 60)))]⟩, ⟨(some 45), none, .call 0 0 (.cst (.fn 48)) [(.tmp 43), (.cst (.int .i64 3)), (.tmp 44), (.cst (.int .i32 10)), (.cst (.bool false))] [] []⟩, ⟨(some 42), none, .mov (.tmp 45)⟩, ⟨(some 46), none, .ext 0 (.tmp 42)⟩, ⟨(some 47), none, .ext 1 (.tmp 42)⟩, ⟨(some 7), none, .mov (.tmp 46)⟩, ⟨(some 8), none, .mov (.tmp 47)⟩]
def pcashbooklaw25_aliver5 : List GOp := [⟨(some 49), none, .mov (.tmp 3)⟩, ⟨(some 50), none, .call 0 0 (.cst (.fn 38)) [(.tmp 49), (.cst (.int .i64 1)), (.cst (.int .i64 0)), (.cst (.int .i32 0)), (.cst (.int .i64 170))] [] []⟩, ⟨(some 48), none, .mov (.tmp 50)⟩, ⟨(some 51), none, .ext 0 (.tmp 48)⟩, ⟨(some 52), none, .ext 1 (.tmp 48)⟩, ⟨(some 9), none, .mov (.tmp 51)⟩, ⟨(some 10), none, .mov (.tmp 52)⟩]
def pcashbooklaw25_aliver6 : List GOp := [⟨(some 54), none, .mov (.tmp 3)⟩, ⟨(some 55), none, .call 0 0 (.cst (.fn 37)) [(.tmp 54), (.cst (.int .i64 1)), (.cst (.int .i64 0)), (.cst (.int .i32 0)), (.cst (.int .i64 3))] [] []⟩, ⟨(some 53), none, .mov (.tmp 55)⟩, ⟨(some 56), none, .ext 0 (.tmp 53)⟩, ⟨(some 57), none, .ext 1 (.tmp 53)⟩, ⟨(some 11), none, .mov (.tmp 56)⟩, ⟨(some 12), none, .mov (.tmp 57)⟩]
def pcashbooklaw25_aliver7 : List GOp := [⟨(some 59), none, .mov (.tmp 3)⟩, ⟨(some 60), none, .call 0 0 (.cst (.fn 49)) [(.tmp 59), (.cst (.int .i64 5))] [] []⟩, ⟨(some 58), none, .mov (.tmp 60)⟩, ⟨(some 61), none, .ext 0 (.tmp 58)⟩, ⟨(some 62), none, .ext 1 (.tmp 58)⟩, ⟨(some 13), none, .mov (.tmp 61)⟩, ⟨(some 14), none, .mov (.tmp 62)⟩]
def pcashbooklaw25_aliver8 : List GOp := [⟨(some 64), none, .mov (.tmp 13)⟩, ⟨(some 65), none, .call 0 0 (.cst (.fn 49)) [(.tmp 64), (.cst (.int .i64 5))] [] []⟩, ⟨(some 63), none, .mov (.tmp 65)⟩, ⟨(some 66), none, .ext 0 (.tmp 63)⟩, ⟨(some 67), none, .ext 1 (.tmp 63)⟩, ⟨(some 15), none, .mov (.tmp 66)⟩, ⟨(some 16), none, .mov (.tmp 67)⟩]
def pcashbooklaw25_aliver9 : List GOp := [⟨(some 69), none, .mov (.tmp 1)⟩, ⟨(some 70), none, .call 0 0 (.cst (.fn 72)) [(.cst (.int .i64 2)), (.cst (.int .i64 0))] [] []⟩, ⟨(some 71), none, .call 0 0 (.cst (.fn 47)) [(.tmp 69), (.tmp 70)] [] []⟩, ⟨(some 68), none, .mov (.tmp 71)⟩, ⟨(some 72), none, .ext 0 (.tmp 68)⟩, ⟨(some 73), none, .ext 1 (.tmp 68)⟩, ⟨(some 17), none, .mov (.tmp 72)⟩, ⟨(some 18), none, .mov (.tmp 73)⟩]
def pcashbooklaw25_aliver10 : List GOp := [⟨(some 75), none, .mov (.tmp 13)⟩, ⟨(some 76), none, .call 0 0 (.cst (.fn 37)) [(.tmp 75), (.cst (.int .i64 1)), (.cst (.int .i64 0)), (.cst (.int .i32 0)), (.cst (.int .i64 0))] [] []⟩, ⟨(some 74), none, .mov (.tmp 76)⟩, ⟨(some 77), none, .ext 0 (.tmp 74)⟩, ⟨(some 78), none, .ext 1 (.tmp 74)⟩, ⟨(some 19), none, .mov (.tmp 77)⟩, ⟨(some 20), none, .mov (.tmp 78)⟩]
def pcashbooklaw25_aliver11 : List GOp := [⟨(some 79), none, .mov (.tmp 9)⟩, ⟨(some 80), none, .build [.pv (.int .i64 0), .pv (.int .i64 0)] [(0, 1, (.cst (.int .i64 3))), (1, 1, (.cst (.int .i64 60)))]⟩, ⟨(some 81), none, .build [.pv (.int .i64 0), .pv (.int .i64 0)] [(0, 1, (.cst (.int .i64 5))), (1, 1, (.cst (.int .i64 100)))]⟩, ⟨(some 82), none, .build [.pv (.int .i64 0), .pv (.int .i64 0)] [(0, 1, (.cst (.int .i64 2))), (1, 1, (.cst (.int .i64 10)))]⟩, ⟨(some 83), none, .lit false 2 [(.tmp 80), (.tmp 81), (.tmp 82)]⟩, ⟨(some 84), none, .call 0 0 (.cst (.fn 44)) [(.tmp 79), (.tmp 83)] [] []⟩, ⟨(some 21), none, .mov (.tmp 84)⟩]
def pcashbooklaw25_aliver12 : List GOp := [⟨(some 85), none, .mov (.tmp 1)⟩, ⟨(some 86), none, .len false (.tmp 85)⟩, ⟨(some 87), none, .bin false .neq (.tmp 86) (.cst (.int .i64 3))⟩, ⟨(some 88), none, .mov (.tmp 87)⟩, ⟨(some 89), (some (88, false)), .mov (.tmp 3)⟩, ⟨(some 90), (some (88, false)), .len false (.tmp 89)⟩, ⟨(some 91), (some (88, false)), .bin false .neq (.tmp 90) (.cst (.int .i64 3))⟩, ⟨(some 92), none, .pick (.tmp 88) (.cst (.bool true)) (.tmp 91)⟩]
def pcashbooklaw25_aliver13 : List GOp := [⟨(some 0), none, .mov (.cst (.bool false))⟩]
def pcashbooklaw25_aliver14 : List GOp := [⟨(some 93), none, .mov (.tmp 2)⟩, ⟨(some 94), none, .bin false .eql (.tmp 93) (.cst (.int .i64 0))⟩, ⟨(some 95), none, .mov (.tmp 94)⟩, ⟨(some 96), (some (95, true)), .mov (.tmp 1)⟩, ⟨(some 97), (some (95, true)), .idx 9 (.tmp 96) (.cst (.int .i64 1))⟩, ⟨(some 98), (some (95, true)), .fld 0 (.tmp 97)⟩, ⟨(some 99), (some (95, true)), .load false 1 (.tmp 98)⟩, ⟨(some 100), (some (95, true)), .bin false .eql (.tmp 99) (.cst (.int .i64 3))⟩, ⟨(some 101), none, .pick (.tmp 95) (.tmp 100) (.cst (.bool false))⟩, ⟨(some 102), none, .mov (.tmp 101)⟩, ⟨(some 103), (some (102, true)), .mov (.tmp 4)⟩, ⟨(some 104), (some (102, true)), .bin false .eql (.tmp 103) (.cst (.int .i64 0))⟩, ⟨(some 105), none, .pick (.tmp 102) (.tmp 104) (.cst (.bool false))⟩, ⟨(some 106), none, .mov (.tmp 105)⟩, ⟨(some 107), (some (106, true)), .mov (.tmp 3)⟩, ⟨(some 108), (some (106, true)), .idx 9 (.tmp 107) (.cst (.int .i64 1))⟩, ⟨(some 109), (some (106, true)), .fld 7 (.tmp 108)⟩, ⟨(some 110), (some (106, true)), .load false 1 (.tmp 109)⟩, ⟨(some 111), (some (106, true)), .bin false .eql (.tmp 110) (.cst (.int .i64 40))⟩, ⟨(some 112), none, .pick (.tmp 106) (.tmp 111) (.cst (.bool false))⟩, ⟨(some 113), none, .mov (.tmp 112)⟩, ⟨(some 114), (some (113, true)), .mov (.tmp 6)⟩, ⟨(some 115), (some (113, true)), .bin false .eql (.tmp 114) (.cst (.int .i64 17))⟩, ⟨(some 116), none, .pick (.tmp 113) (.tmp 115) (.cst (.bool false))⟩, ⟨(some 117), none, .mov (.tmp 116)⟩, ⟨(some 118), (some (117, true)), .mov (.tmp 8)⟩, ⟨(some 119), (some (117, true)), .bin false .eql (.tmp 118) (.cst (.int .i64 27))⟩, ⟨(some 120), none, .pick (.tmp 117) (.tmp 119) (.cst (.bool false))⟩, ⟨(some 121), none, .mov (.tmp 120)⟩, ⟨(some 122), (some (121, true)), .mov (.tmp 21)⟩, ⟨(some 123), none, .pick (.tmp 121) (.tmp 122) (.cst (.bool false))⟩, ⟨(some 124), none, .mov (.tmp 123)⟩, ⟨(some 125), (some (124, true)), .mov (.tmp 10)⟩, ⟨(some 126), (some (124, true)), .bin false .eql (.tmp 125) (.cst (.int .i64 0))⟩, ⟨(some 127), none, .pick (.tmp 124) (.tmp 126) (.cst (.bool false))⟩, ⟨(some 128), none, .mov (.tmp 127)⟩, ⟨(some 129), (some (128, true)), .mov (.tmp 11)⟩, ⟨(some 130), (some (128, true)), .bin false .eql (.tmp 129) (.cst (.int .i64 160))⟩, ⟨(some 131), none, .pick (.tmp 128) (.tmp 130) (.cst (.bool false))⟩, ⟨(some 132), none, .mov (.tmp 131)⟩, ⟨(some 133), (some (132, true)), .mov (.tmp 12)⟩, ⟨(some 134), (some (132, true)), .bin false .eql (.tmp 133) (.cst (.int .i64 0))⟩, ⟨(some 135), none, .pick (.tmp 132) (.tmp 134) (.cst (.bool false))⟩, ⟨(some 136), none, .mov (.tmp 135)⟩, ⟨(some 137), (some (136, true)), .mov (.tmp 14)⟩, ⟨(some 138), (some (136, true)), .bin false .eql (.tmp 137) (.cst (.int .i64 0))⟩, ⟨(some 139), none, .pick (.tmp 136) (.tmp 138) (.cst (.bool false))⟩, ⟨(some 140), none, .mov (.tmp 139)⟩, ⟨(some 141), (some (140, true)), .mov (.tmp 16)⟩, ⟨(some 142), (some (140, true)), .bin false .eql (.tmp 141) (.cst (.int .i64 23))⟩, ⟨(some 143), none, .pick (.tmp 140) (.tmp 142) (.cst (.bool false))⟩, ⟨(some 144), none, .mov (.tmp 143)⟩, ⟨(some 145), (some (144, true)), .mov (.tmp 18)⟩, ⟨(some 146), (some (144, true)), .bin false .eql (.tmp 145) (.cst (.int .i64 26))⟩, ⟨(some 147), none, .pick (.tmp 144) (.tmp 146) (.cst (.bool false))⟩, ⟨(some 148), none, .mov (.tmp 147)⟩, ⟨(some 149), (some (148, true)), .mov (.tmp 19)⟩, ⟨(some 150), (some (148, true)), .bin false .eql (.tmp 149) (.cst (.int .i64 160))⟩, ⟨(some 151), none, .pick (.tmp 148) (.tmp 150) (.cst (.bool false))⟩, ⟨(some 152), none, .mov (.tmp 151)⟩, ⟨(some 153), (some (152, true)), .mov (.tmp 20)⟩, ⟨(some 154), (some (152, true)), .bin false .eql (.tmp 153) (.cst (.int .i64 0))⟩, ⟨(some 155), none, .pick (.tmp 152) (.tmp 154) (.cst (.bool false))⟩, ⟨(some 156), none, .mov (.tmp 155)⟩, ⟨(some 157), (some (156, true)), .mov (.tmp 3)⟩, ⟨(some 158), (some (156, true)), .idx 9 (.tmp 157) (.cst (.int .i64 1))⟩, ⟨(some 159), (some (156, true)), .load true 9 (.tmp 158)⟩, ⟨(some 160), (some (156, true)), .call 0 0 (.cst (.fn 40)) [(.tmp 159), (.cst (.int .i32 9))] [] []⟩, ⟨(some 161), none, .pick (.tmp 156) (.tmp 160) (.cst (.bool false))⟩, ⟨(some 162), none, .mov (.tmp 161)⟩, ⟨(some 163), (some (162, true)), .mov (.tmp 3)⟩, ⟨(some 164), (some (162, true)), .idx 9 (.tmp 163) (.cst (.int .i64 1))⟩, ⟨(some 165), (some (162, true)), .load true 9 (.tmp 164)⟩, ⟨(some 166), (some (162, true)), .call 0 0 (.cst (.fn 42)) [(.tmp 165), (.cst (.int .i32 9))] [] []⟩, ⟨(some 167), (some (162, true)), .bin false .eql (.tmp 166) (.cst (.int .i64 60))⟩, ⟨(some 168), none, .pick (.tmp 162) (.tmp 167) (.cst (.bool false))⟩, ⟨(some 169), none, .mov (.tmp 168)⟩, ⟨(some 170), (some (169, true)), .mov (.tmp 3)⟩, ⟨(some 171), (some (169, true)), .idx 9 (.tmp 170) (.cst (.int .i64 1))⟩, ⟨(some 172), (some (169, true)), .load true 9 (.tmp 171)⟩, ⟨(some 173), (some (169, true)), .call 0 0 (.cst (.fn 42)) [(.tmp 172), (.cst (.int .i32 10))] [] []⟩, ⟨(some 174), (some (169, true)), .bin false .eql (.tmp 173) (.cst (.int .i64 0))⟩, ⟨(some 175), none, .pick (.tmp 169) (.tmp 174) (.cst (.bool false))⟩, ⟨(some 176), none, .mov (.tmp 175)⟩, ⟨(some 177), (some (176, true)), .call 0 0 (.cst (.fn 72)) [(.cst (.int .i64 2)), (.cst (.int .i64 0))] [] []⟩, ⟨(some 178), (some (176, true)), .call 0 0 (.cst (.fn 72)) [(.cst (.int .i64 2)), (.cst (.int .i64 0))] [] []⟩, ⟨(some 179), (some (176, true)), .lit false 9 [(.tmp 177), (.tmp 178)]⟩, ⟨(some 180), (some (176, true)), .call 0 0 (.cst (.fn 36)) [(.tmp 179)] [] []⟩, ⟨(some 181), (some (176, true)), .bin false .eql (.tmp 180) (.cst (.int .i64 20))⟩, ⟨(some 182), none, .pick (.tmp 176) (.tmp 181) (.cst (.bool false))⟩, ⟨(some 0), none, .mov (.tmp 182)⟩]
def pcashbooklaw25_aliveb : AC := (.seq (.ops pcashbooklaw25_aliver0) (.seq (.ops pcashbooklaw25_aliver1) (.seq (.ops pcashbooklaw25_aliver2) (.seq (.ops pcashbooklaw25_aliver3) (.seq (.ops pcashbooklaw25_aliver4) (.seq (.ops pcashbooklaw25_aliver5) (.seq (.ops pcashbooklaw25_aliver6) (.seq (.ops pcashbooklaw25_aliver7) (.seq (.ops pcashbooklaw25_aliver8) (.seq (.ops pcashbooklaw25_aliver9) (.seq (.ops pcashbooklaw25_aliver10) (.seq (.ops pcashbooklaw25_aliver11) (.seq (.seq (.ops pcashbooklaw25_aliver12) (.cond (.tmp 92) (.seq (.ops pcashbooklaw25_aliver13) (.keep [] [(0, false)] [] [] [] .ret)) .skip)) (.seq (.ops pcashbooklaw25_aliver14) (.keep [] [(0, false)] [] [] [] .ret)))))))))))))))
def pcashbooklaw25_alive : Fd := ⟨0, [.tmp 0], [], pcashbooklaw25_aliveb⟩
theorem pcashbooklaw25_alive_ag : agreeF Try.prog Try.f35 pcashbooklaw25_alive = true := by kernel_rfl
theorem cashbooklaw25_alive_ok {r : Bool} (h : cashbooklaw25_alive = some r) : Contract Try.prog 35 [] [] ⟨.pv (.bool r), [], []⟩ := by
  refine contract_fin hm Try.func35 pcashbooklaw25_alive_ag (by kernel_rfl) ?_
  unfold cashbooklaw25_alive at h
  refine W.seqOps (RunR.all (by kernel_rfl)) ?_
  replace h := bindS h
  obtain ⟨x1, hx1, h⟩ := h
  replace h := bindS h
  obtain ⟨x2, hx2, h⟩ := h
  replace h := bindS h
  obtain ⟨x3, hx3, h⟩ := h
  replace h := bindS h
  obtain ⟨x4, hx4, h⟩ := h
  refine W.seqOps (RunR.cons (tab_cons (on := true) (fun _ => cashbooklaw25_one_ok hx1) tab_nil) (Step.call0 (g := 72) (caps := []) (v := .pv (T_api_Hold.pv x1)) (by kernel_rfl) (by kernel_rfl) (by kernel_rfl) (tab_hit (by kernel_rfl)) (by kernel_rfl)) (RunR.cons (tab_cons (on := true) (fun _ => cashbooklaw25_one_ok hx2) tab_nil) (Step.call0 (g := 72) (caps := []) (v := .pv (T_api_Hold.pv x2)) (by kernel_rfl) (by kernel_rfl) (by kernel_rfl) (tab_hit (by kernel_rfl)) (by kernel_rfl)) (RunR.stat 1 (by kernel_rfl) (RunR.cons (tab_cons (on := true) (fun _ => cashbooklaw25_one_ok hx3) tab_nil) (Step.call0 (g := 72) (caps := []) (v := .pv (T_api_Hold.pv x3)) (by kernel_rfl) (by kernel_rfl) (by kernel_rfl) (tab_hit (by kernel_rfl)) (by kernel_rfl)) (RunR.cons (tab_cons (on := true) (fun _ => hold_Add_ok hx4) tab_nil) (Step.call0 (g := 47) (caps := []) (v := .tup [.pv (.slice (List.map T_api_Hold.pv x4.1)), .pv (.int .i64 x4.2)]) (by kernel_rfl) (by kernel_rfl) (by kernel_rfl) (tab_hit (by kernel_rfl)) (by kernel_rfl)) (RunR.all (by kernel_rfl))))))) ?_
  replace h := bindS h
  obtain ⟨x5, hx5, h⟩ := h
  refine W.seqOps (RunR.stat 2 (by kernel_rfl) (RunR.cons (tab_cons (on := true) (fun _ => hold_Capture_ok hx5) tab_nil) (Step.call0 (g := 48) (caps := []) (v := .tup [.pv (.slice (List.map T_api_Hold.pv x5.1)), .pv (.int .i64 x5.2)]) (by kernel_rfl) (by kernel_rfl) (by kernel_rfl) (tab_hit (by kernel_rfl)) (by kernel_rfl)) (RunR.all (by kernel_rfl)))) ?_
  replace h := bindS h
  obtain ⟨x6, hx6, h⟩ := h
  refine W.seqOps (RunR.stat 2 (by kernel_rfl) (RunR.cons (tab_cons (on := true) (fun _ => hold_Capture_ok hx6) tab_nil) (Step.call0 (g := 48) (caps := []) (v := .tup [.pv (.slice (List.map T_api_Hold.pv x6.1)), .pv (.int .i64 x6.2)]) (by kernel_rfl) (by kernel_rfl) (by kernel_rfl) (tab_hit (by kernel_rfl)) (by kernel_rfl)) (RunR.all (by kernel_rfl)))) ?_
  replace h := bindS h
  obtain ⟨x7, hx7, h⟩ := h
  refine W.seqOps (RunR.stat 2 (by kernel_rfl) (RunR.cons (tab_cons (on := true) (fun _ => hold_Capture_ok hx7) tab_nil) (Step.call0 (g := 48) (caps := []) (v := .tup [.pv (.slice (List.map T_api_Hold.pv x7.1)), .pv (.int .i64 x7.2)]) (by kernel_rfl) (by kernel_rfl) (by kernel_rfl) (tab_hit (by kernel_rfl)) (by kernel_rfl)) (RunR.all (by kernel_rfl)))) ?_
  replace h := bindS h
  obtain ⟨x8, hx8, h⟩ := h
  refine W.seqOps (RunR.stat 1 (by kernel_rfl) (RunR.cons (tab_cons (on := true) (fun _ => hold_Cover_ok hx8) tab_nil) (Step.call0 (g := 38) (caps := []) (v := .tup [.pv (.slice (List.map T_api_Covered.pv x8.1)), .pv (.int .i64 x8.2)]) (by kernel_rfl) (by kernel_rfl) (by kernel_rfl) (tab_hit (by kernel_rfl)) (by kernel_rfl)) (RunR.all (by kernel_rfl)))) ?_
  replace h := bindS h
  obtain ⟨x9, hx9, h⟩ := h
  refine W.seqOps (RunR.stat 1 (by kernel_rfl) (RunR.cons (tab_cons (on := true) (fun _ => hold_Sum_ok hx9) tab_nil) (Step.call0 (g := 37) (caps := []) (v := .tup [.pv (.int .i64 x9.1), .pv (.int .i64 x9.2)]) (by kernel_rfl) (by kernel_rfl) (by kernel_rfl) (tab_hit (by kernel_rfl)) (by kernel_rfl)) (RunR.all (by kernel_rfl)))) ?_
  replace h := bindS h
  obtain ⟨x10, hx10, h⟩ := h
  refine W.seqOps (RunR.stat 1 (by kernel_rfl) (RunR.cons (tab_cons (on := true) (fun _ => hold_Release_ok hx10) tab_nil) (Step.call0 (g := 49) (caps := []) (v := .tup [.pv (.slice (List.map T_api_Hold.pv x10.1)), .pv (.int .i64 x10.2)]) (by kernel_rfl) (by kernel_rfl) (by kernel_rfl) (tab_hit (by kernel_rfl)) (by kernel_rfl)) (RunR.all (by kernel_rfl)))) ?_
  replace h := bindS h
  obtain ⟨x11, hx11, h⟩ := h
  refine W.seqOps (RunR.stat 1 (by kernel_rfl) (RunR.cons (tab_cons (on := true) (fun _ => hold_Release_ok hx11) tab_nil) (Step.call0 (g := 49) (caps := []) (v := .tup [.pv (.slice (List.map T_api_Hold.pv x11.1)), .pv (.int .i64 x11.2)]) (by kernel_rfl) (by kernel_rfl) (by kernel_rfl) (tab_hit (by kernel_rfl)) (by kernel_rfl)) (RunR.all (by kernel_rfl)))) ?_
  replace h := bindS h
  obtain ⟨x12, hx12, h⟩ := h
  replace h := bindS h
  obtain ⟨x13, hx13, h⟩ := h
  refine W.seqOps (RunR.stat 1 (by kernel_rfl) (RunR.cons (tab_cons (on := true) (fun _ => cashbooklaw25_one_ok hx12) tab_nil) (Step.call0 (g := 72) (caps := []) (v := .pv (T_api_Hold.pv x12)) (by kernel_rfl) (by kernel_rfl) (by kernel_rfl) (tab_hit (by kernel_rfl)) (by kernel_rfl)) (RunR.cons (tab_cons (on := true) (fun _ => hold_Add_ok hx13) tab_nil) (Step.call0 (g := 47) (caps := []) (v := .tup [.pv (.slice (List.map T_api_Hold.pv x13.1)), .pv (.int .i64 x13.2)]) (by kernel_rfl) (by kernel_rfl) (by kernel_rfl) (tab_hit (by kernel_rfl)) (by kernel_rfl)) (RunR.all (by kernel_rfl))))) ?_
  replace h := bindS h
  obtain ⟨x14, hx14, h⟩ := h
  refine W.seqOps (RunR.stat 1 (by kernel_rfl) (RunR.cons (tab_cons (on := true) (fun _ => hold_Sum_ok hx14) tab_nil) (Step.call0 (g := 37) (caps := []) (v := .tup [.pv (.int .i64 x14.1), .pv (.int .i64 x14.2)]) (by kernel_rfl) (by kernel_rfl) (by kernel_rfl) (tab_hit (by kernel_rfl)) (by kernel_rfl)) (RunR.all (by kernel_rfl)))) ?_
  replace h := bindS h
  obtain ⟨x15, hx15, h⟩ := h
  refine W.seqOps (RunR.stat 5 (by kernel_rfl) (RunR.cons (tab_cons (on := true) (fun _ => cashbookref25_Covered_ok hx15) tab_nil) (Step.call0 (g := 44) (caps := []) (v := .pv (.bool x15)) (by kernel_rfl) (by kernel_rfl) (by kernel_rfl) (tab_hit (by kernel_rfl)) (by kernel_rfl)) (RunR.all (by kernel_rfl)))) ?_
  refine W.assoc ?_
  replace h := bindS h
  obtain ⟨c16, hc16, h⟩ := h
  refine W.seqOps (RunR.stat 1 (by kernel_rfl) (RunR.dyn (Step.lenT (f := T_api_Hold.pv) (l := x4.1) (by kernel_rfl)) (RunR.stat 1 (by kernel_rfl) (RunR.dyn (Step.name (f := eBool) (e := ((x4.1.length : Int) != 3)) (c := c16) (by kernel_rfl) hc16) (RunR.puts 1 [(89, (bif !c16 then (.pv (.slice (List.map T_api_Hold.pv x5.1))) else (.tup [])))] (by cases c16 <;> kernel_rfl) (RunR.dyn (Step.gdG (!c16) (by kernel_rfl) (by
        cases c16
        · exact .inr ⟨by kernel_rfl, by kernel_rfl, Step.lenT (f := T_api_Hold.pv) (l := x5.1) (by kernel_rfl)⟩
        · exact .inl ⟨by kernel_rfl, by kernel_rfl⟩)) (RunR.puts 2 [(92, .pv (.bool (c16 || ((x5.1.length : Int) != 3)))), (91, (bif !c16 then (.pv (.bool ((x5.1.length : Int) != 3))) else (.tup [])))] (by cases c16 <;> kernel_rfl) ((.nil _))))))))) ?_
  refine W.seqCond (t := (c16 || ((x5.1.length : Int) != 3))) (by kernel_rfl) h (fun hc h' => ?_) (fun hc h' => ?_)
  · replace h := h'
    refine W.assoc ?_
    refine W.seqOps (RunR.all (by kernel_rfl)) ?_
    refine W.seqKeep rfl ?_
    cases h
    exact W.seqRet ((fin_ret (by kernel_rfl)))
  · replace h := h'
    refine W.seqSkip ?_
    replace h := bindS h
    obtain ⟨c17, hc17, h⟩ := h
    replace h := bindS h
    obtain ⟨x18, hx18, h⟩ := h
    replace h := bindS h
    obtain ⟨c19, hc19, h⟩ := h
    replace h := bindS h
    obtain ⟨c20, hc20, h⟩ := h
    replace h := bindS h
    obtain ⟨x21, hx21, h⟩ := h
    replace h := bindS h
    obtain ⟨c22, hc22, h⟩ := h
    replace h := bindS h
    obtain ⟨c23, hc23, h⟩ := h
    replace h := bindS h
    obtain ⟨c24, hc24, h⟩ := h
    replace h := bindS h
    obtain ⟨c25, hc25, h⟩ := h
    replace h := bindS h
    obtain ⟨c26, hc26, h⟩ := h
    replace h := bindS h
    obtain ⟨c27, hc27, h⟩ := h
    replace h := bindS h
    obtain ⟨c28, hc28, h⟩ := h
    replace h := bindS h
    obtain ⟨c29, hc29, h⟩ := h
    replace h := bindS h
    obtain ⟨c30, hc30, h⟩ := h
    replace h := bindS h
    obtain ⟨c31, hc31, h⟩ := h
    replace h := bindS h
    obtain ⟨c32, hc32, h⟩ := h
    replace h := bindS h
    obtain ⟨c33, hc33, h⟩ := h
    replace h := bindS h
    obtain ⟨x34, hx34, h⟩ := h
    replace h := bindS h
    obtain ⟨x35, hx35, h⟩ := h
    replace h := bindS h
    obtain ⟨c36, hc36, h⟩ := h
    replace h := bindS h
    obtain ⟨x37, hx37, h⟩ := h
    replace h := bindS h
    obtain ⟨x38, hx38, h⟩ := h
    replace h := bindS h
    obtain ⟨c39, hc39, h⟩ := h
    replace h := bindS h
    obtain ⟨x40, hx40, h⟩ := h
    replace h := bindS h
    obtain ⟨x41, hx41, h⟩ := h
    replace h := bindS h
    obtain ⟨c42, hc42, h⟩ := h
    replace h := bindS h
    obtain ⟨x43, hx43, h⟩ := h
    replace h := bindS h
    obtain ⟨x44, hx44, h⟩ := h
    replace h := bindS h
    obtain ⟨x45, hx45, h⟩ := h
    refine W.seqOps (RunR.stat 2 (by kernel_rfl) (RunR.dyn (Step.name (f := eBool) (e := (x4.2 == 0)) (c := c17) (by kernel_rfl) hc17) (RunR.puts 1 [(96, (bif c17 then (.pv (.slice (List.map T_api_Hold.pv x4.1))) else (.tup [])))] (by cases c17 <;> kernel_rfl) (RunR.dyn (Step.gdG c17 (by kernel_rfl) (by
          cases c17
          · exact .inl ⟨by kernel_rfl, by kernel_rfl⟩
          · exact .inr ⟨by kernel_rfl, by kernel_rfl, Step.idxT (f := T_api_Hold.pv) (l := x4.1) (n := 1) (e := x18) (k := .i64) (by kernel_rfl) (by kernel_rfl) hx18 (by kernel_rfl)⟩)) (RunR.puts 4 [(101, .pv (.bool (c17 && (x18.f_ID == 3)))), (100, (bif c17 then (.pv (.bool (x18.f_ID == 3))) else (.tup []))), (99, (bif c17 then (.pv (.int .i64 x18.f_ID)) else (.tup []))), (98, (bif c17 then (.ipv (T_api_Hold.pv x18) 0) else (.tup [])))] (by cases c17 <;> kernel_rfl) (RunR.dyn (Step.name (f := eBool) (e := (c17 && (x18.f_ID == 3))) (c := c19) (by kernel_rfl) hc19) (RunR.puts 3 [(105, .pv (.bool (c19 && (x5.2 == 0)))), (104, (bif c19 then (.pv (.bool (x5.2 == 0))) else (.tup []))), (103, (bif c19 then (.pv (.int .i64 x5.2)) else (.tup [])))] (by cases c19 <;> kernel_rfl) (RunR.dyn (Step.name (f := eBool) (e := (c19 && (x5.2 == 0))) (c := c20) (by kernel_rfl) hc20) (RunR.puts 1 [(107, (bif c20 then (.pv (.slice (List.map T_api_Hold.pv x5.1))) else (.tup [])))] (by cases c20 <;> kernel_rfl) (RunR.dyn (Step.gdG c20 (by kernel_rfl) (by
          cases c20
          · exact .inl ⟨by kernel_rfl, by kernel_rfl⟩
          · exact .inr ⟨by kernel_rfl, by kernel_rfl, Step.idxT (f := T_api_Hold.pv) (l := x5.1) (n := 1) (e := x21) (k := .i64) (by kernel_rfl) (by kernel_rfl) hx21 (by kernel_rfl)⟩)) (RunR.puts 4 [(112, .pv (.bool (c20 && (x21.f_Taken == 40)))), (111, (bif c20 then (.pv (.bool (x21.f_Taken == 40))) else (.tup []))), (110, (bif c20 then (.pv (.int .i64 x21.f_Taken)) else (.tup []))), (109, (bif c20 then (.ipv (T_api_Hold.pv x21) 7) else (.tup [])))] (by cases c20 <;> kernel_rfl) (RunR.dyn (Step.name (f := eBool) (e := (c20 && (x21.f_Taken == 40))) (c := c22) (by kernel_rfl) hc22) (RunR.puts 3 [(116, .pv (.bool (c22 && (x6.2 == 17)))), (115, (bif c22 then (.pv (.bool (x6.2 == 17))) else (.tup []))), (114, (bif c22 then (.pv (.int .i64 x6.2)) else (.tup [])))] (by cases c22 <;> kernel_rfl) (RunR.dyn (Step.name (f := eBool) (e := (c22 && (x6.2 == 17))) (c := c23) (by kernel_rfl) hc23) (RunR.puts 3 [(120, .pv (.bool (c23 && (x7.2 == 27)))), (119, (bif c23 then (.pv (.bool (x7.2 == 27))) else (.tup []))), (118, (bif c23 then (.pv (.int .i64 x7.2)) else (.tup [])))] (by cases c23 <;> kernel_rfl) (RunR.dyn (Step.name (f := eBool) (e := (c23 && (x7.2 == 27))) (c := c24) (by kernel_rfl) hc24) (RunR.puts 2 [(123, .pv (.bool (c24 && x15))), (122, (bif c24 then (.pv (.bool x15)) else (.tup [])))] (by cases c24 <;> kernel_rfl) (RunR.dyn (Step.name (f := eBool) (e := (c24 && x15)) (c := c25) (by kernel_rfl) hc25) (RunR.puts 3 [(127, .pv (.bool (c25 && (x8.2 == 0)))), (126, (bif c25 then (.pv (.bool (x8.2 == 0))) else (.tup []))), (125, (bif c25 then (.pv (.int .i64 x8.2)) else (.tup [])))] (by cases c25 <;> kernel_rfl) (RunR.dyn (Step.name (f := eBool) (e := (c25 && (x8.2 == 0))) (c := c26) (by kernel_rfl) hc26) (RunR.puts 3 [(131, .pv (.bool (c26 && (x9.1 == 160)))), (130, (bif c26 then (.pv (.bool (x9.1 == 160))) else (.tup []))), (129, (bif c26 then (.pv (.int .i64 x9.1)) else (.tup [])))] (by cases c26 <;> kernel_rfl) (RunR.dyn (Step.name (f := eBool) (e := (c26 && (x9.1 == 160))) (c := c27) (by kernel_rfl) hc27) (RunR.puts 3 [(135, .pv (.bool (c27 && (x9.2 == 0)))), (134, (bif c27 then (.pv (.bool (x9.2 == 0))) else (.tup []))), (133, (bif c27 then (.pv (.int .i64 x9.2)) else (.tup [])))] (by cases c27 <;> kernel_rfl) (RunR.dyn (Step.name (f := eBool) (e := (c27 && (x9.2 == 0))) (c := c28) (by kernel_rfl) hc28) (RunR.puts 3 [(139, .pv (.bool (c28 && (x10.2 == 0)))), (138, (bif c28 then (.pv (.bool (x10.2 == 0))) else (.tup []))), (137, (bif c28 then (.pv (.int .i64 x10.2)) else (.tup [])))] (by cases c28 <;> kernel_rfl) (RunR.dyn (Step.name (f := eBool) (e := (c28 && (x10.2 == 0))) (c := c29) (by kernel_rfl) hc29) (RunR.puts 3 [(143, .pv (.bool (c29 && (x11.2 == 23)))), (142, (bif c29 then (.pv (.bool (x11.2 == 23))) else (.tup []))), (141, (bif c29 then (.pv (.int .i64 x11.2)) else (.tup [])))] (by cases c29 <;> kernel_rfl) (RunR.dyn (Step.name (f := eBool) (e := (c29 && (x11.2 == 23))) (c := c30) (by kernel_rfl) hc30) (RunR.puts 3 [(147, .pv (.bool (c30 && (x13.2 == 26)))), (146, (bif c30 then (.pv (.bool (x13.2 == 26))) else (.tup []))), (145, (bif c30 then (.pv (.int .i64 x13.2)) else (.tup [])))] (by cases c30 <;> kernel_rfl) (RunR.dyn (Step.name (f := eBool) (e := (c30 && (x13.2 == 26))) (c := c31) (by kernel_rfl) hc31) (RunR.puts 3 [(151, .pv (.bool (c31 && (x14.1 == 160)))), (150, (bif c31 then (.pv (.bool (x14.1 == 160))) else (.tup []))), (149, (bif c31 then (.pv (.int .i64 x14.1)) else (.tup [])))] (by cases c31 <;> kernel_rfl) (RunR.dyn (Step.name (f := eBool) (e := (c31 && (x14.1 == 160))) (c := c32) (by kernel_rfl) hc32) (RunR.puts 3 [(155, .pv (.bool (c32 && (x14.2 == 0)))), (154, (bif c32 then (.pv (.bool (x14.2 == 0))) else (.tup []))), (153, (bif c32 then (.pv (.int .i64 x14.2)) else (.tup [])))] (by cases c32 <;> kernel_rfl) (RunR.dyn (Step.name (f := eBool) (e := (c32 && (x14.2 == 0))) (c := c33) (by kernel_rfl) hc33) (RunR.puts 1 [(157, (bif c33 then (.pv (.slice (List.map T_api_Hold.pv x5.1))) else (.tup [])))] (by cases c33 <;> kernel_rfl) (RunR.dyn (Step.gdG c33 (by kernel_rfl) (by
          cases c33
          · exact .inl ⟨by kernel_rfl, by kernel_rfl⟩
          · exact .inr ⟨by kernel_rfl, by kernel_rfl, Step.idxT (f := T_api_Hold.pv) (l := x5.1) (n := 1) (e := x34) (k := .i64) (by kernel_rfl) (by kernel_rfl) hx34 (by kernel_rfl)⟩)) (RunR.puts 1 [(159, (bif c33 then (.pv (T_api_Hold.pv x34)) else (.tup [])))] (by cases c33 <;> kernel_rfl) (RunR.cons (tab_cons (on := c33) (fun hg => hold_Live_ok (gdO_at hg hx35)) tab_nil) (Step.gdG c33 (by kernel_rfl) (by
          cases c33
          · exact .inl ⟨by kernel_rfl, by kernel_rfl⟩
          · exact .inr ⟨by kernel_rfl, by kernel_rfl, Step.call0 (g := 40) (caps := []) (v := .pv (.bool x35)) (by kernel_rfl) (by kernel_rfl) (by kernel_rfl) (tab_hit (by kernel_rfl)) (by kernel_rfl)⟩)) (RunR.puts 1 [(161, .pv (.bool (c33 && x35)))] (by cases c33 <;> kernel_rfl) (RunR.dyn (Step.name (f := eBool) (e := (c33 && x35)) (c := c36) (by kernel_rfl) hc36) (RunR.puts 1 [(163, (bif c36 then (.pv (.slice (List.map T_api_Hold.pv x5.1))) else (.tup [])))] (by cases c36 <;> kernel_rfl) (RunR.dyn (Step.gdG c36 (by kernel_rfl) (by
          cases c36
          · exact .inl ⟨by kernel_rfl, by kernel_rfl⟩
          · exact .inr ⟨by kernel_rfl, by kernel_rfl, Step.idxT (f := T_api_Hold.pv) (l := x5.1) (n := 1) (e := x37) (k := .i64) (by kernel_rfl) (by kernel_rfl) hx37 (by kernel_rfl)⟩)) (RunR.puts 1 [(165, (bif c36 then (.pv (T_api_Hold.pv x37)) else (.tup [])))] (by cases c36 <;> kernel_rfl) (RunR.cons (tab_cons (on := c36) (fun hg => hold_Rest_ok (gdO_at hg hx38)) tab_nil) (Step.gdG c36 (by kernel_rfl) (by
          cases c36
          · exact .inl ⟨by kernel_rfl, by kernel_rfl⟩
          · exact .inr ⟨by kernel_rfl, by kernel_rfl, Step.call0 (g := 42) (caps := []) (v := .pv (.int .i64 x38)) (by kernel_rfl) (by kernel_rfl) (by kernel_rfl) (tab_hit (by kernel_rfl)) (by kernel_rfl)⟩)) (RunR.puts 2 [(168, .pv (.bool (c36 && (x38 == 60)))), (167, (bif c36 then (.pv (.bool (x38 == 60))) else (.tup [])))] (by cases c36 <;> kernel_rfl) (RunR.dyn (Step.name (f := eBool) (e := (c36 && (x38 == 60))) (c := c39) (by kernel_rfl) hc39) (RunR.puts 1 [(170, (bif c39 then (.pv (.slice (List.map T_api_Hold.pv x5.1))) else (.tup [])))] (by cases c39 <;> kernel_rfl) (RunR.dyn (Step.gdG c39 (by kernel_rfl) (by
          cases c39
          · exact .inl ⟨by kernel_rfl, by kernel_rfl⟩
          · exact .inr ⟨by kernel_rfl, by kernel_rfl, Step.idxT (f := T_api_Hold.pv) (l := x5.1) (n := 1) (e := x40) (k := .i64) (by kernel_rfl) (by kernel_rfl) hx40 (by kernel_rfl)⟩)) (RunR.puts 1 [(172, (bif c39 then (.pv (T_api_Hold.pv x40)) else (.tup [])))] (by cases c39 <;> kernel_rfl) (RunR.cons (tab_cons (on := c39) (fun hg => hold_Rest_ok (gdO_at hg hx41)) tab_nil) (Step.gdG c39 (by kernel_rfl) (by
          cases c39
          · exact .inl ⟨by kernel_rfl, by kernel_rfl⟩
          · exact .inr ⟨by kernel_rfl, by kernel_rfl, Step.call0 (g := 42) (caps := []) (v := .pv (.int .i64 x41)) (by kernel_rfl) (by kernel_rfl) (by kernel_rfl) (tab_hit (by kernel_rfl)) (by kernel_rfl)⟩)) (RunR.puts 2 [(175, .pv (.bool (c39 && (x41 == 0)))), (174, (bif c39 then (.pv (.bool (x41 == 0))) else (.tup [])))] (by cases c39 <;> kernel_rfl) (RunR.dyn (Step.name (f := eBool) (e := (c39 && (x41 == 0))) (c := c42) (by kernel_rfl) hc42) (RunR.cons (tab_cons (on := c42) (fun hg => cashbooklaw25_one_ok (gdO_at hg hx43)) tab_nil) (Step.gdG c42 (by kernel_rfl) (by
          cases c42
          · exact .inl ⟨by kernel_rfl, by kernel_rfl⟩
          · exact .inr ⟨by kernel_rfl, by kernel_rfl, Step.call0 (g := 72) (caps := []) (v := .pv (T_api_Hold.pv x43)) (by kernel_rfl) (by kernel_rfl) (by kernel_rfl) (tab_hit (by kernel_rfl)) (by kernel_rfl)⟩)) (RunR.cons (tab_cons (on := c42) (fun hg => cashbooklaw25_one_ok (gdO_at hg hx44)) tab_nil) (Step.gdG c42 (by kernel_rfl) (by
          cases c42
          · exact .inl ⟨by kernel_rfl, by kernel_rfl⟩
          · exact .inr ⟨by kernel_rfl, by kernel_rfl, Step.call0 (g := 72) (caps := []) (v := .pv (T_api_Hold.pv x44)) (by kernel_rfl) (by kernel_rfl) (by kernel_rfl) (tab_hit (by kernel_rfl)) (by kernel_rfl)⟩)) (RunR.puts 1 [(179, (bif c42 then (.pv (.slice (List.map T_api_Hold.pv [x43, x44]))) else (.tup [])))] (by cases c42 <;> kernel_rfl) (RunR.cons (tab_cons (on := c42) (fun hg => hold_Check_ok (gdO_at hg hx45)) tab_nil) (Step.gdG c42 (by kernel_rfl) (by
          cases c42
          · exact .inl ⟨by kernel_rfl, by kernel_rfl⟩
          · exact .inr ⟨by kernel_rfl, by kernel_rfl, Step.call0 (g := 36) (caps := []) (v := .pv (.int .i64 x45)) (by kernel_rfl) (by kernel_rfl) (by kernel_rfl) (tab_hit (by kernel_rfl)) (by kernel_rfl)⟩)) (RunR.puts 2 [(182, .pv (.bool (c42 && (x45 == 20)))), (181, (bif c42 then (.pv (.bool (x45 == 20))) else (.tup [])))] (by cases c42 <;> kernel_rfl) (RunR.all (by kernel_rfl))))))))))))))))))))))))))))))))))))))))))))))))))))))))))) ?_
    refine W.keep rfl ?_
    cases h
    exact W.ret ((fin_ret (by kernel_rfl)))
def pcashbooklaw25_HoldRankr0 : List GOp := [⟨(some 3), none, .box (.tmp 1)⟩, ⟨(some 4), none, .mov (.cst (.bool false))⟩]
def pcashbooklaw25_HoldRankr1 : List GOp := [⟨(some 22), none, .mov (.tmp 0)⟩, ⟨(some 23), none, .len false (.tmp 22)⟩, ⟨(some 24), none, .bin false .gtr (.tmp 23) (.cst (.int .i64 300))⟩, ⟨(some 25), none, .mov (.tmp 24)⟩, ⟨(some 26), (some (25, false)), .mov (.tmp 0)⟩, ⟨(some 27), (some (25, false)), .call 0 0 (.cst (.fn 36)) [(.tmp 26)] [] []⟩, ⟨(some 28), (some (25, false)), .bin false .neq (.tmp 27) (.cst (.int .i64 0))⟩, ⟨(some 29), none, .pick (.tmp 25) (.cst (.bool true)) (.tmp 28)⟩]
def pcashbooklaw25_HoldRankr2 : List GOp := [⟨(some 30), none, .call 0 0 (.cst (.fn 35)) [] [] []⟩, ⟨(some 4), none, .mov (.tmp 30)⟩]
def pcashbooklaw25_HoldRankr3 : List GOp := [⟨(some 32), none, .mov (.tmp 0)⟩, ⟨(some 33), none, .fld 0 (.tmp 3)⟩, ⟨(some 34), none, .load false 1 (.tmp 33)⟩, ⟨(some 35), none, .fld 1 (.tmp 3)⟩, ⟨(some 36), none, .load false 1 (.tmp 35)⟩, ⟨(some 37), none, .fld 2 (.tmp 3)⟩, ⟨(some 38), none, .load false 1 (.tmp 37)⟩, ⟨(some 39), none, .fld 4 (.tmp 3)⟩, ⟨(some 40), none, .load false 1 (.tmp 39)⟩, ⟨(some 41), none, .call 0 0 (.cst (.fn 38)) [(.tmp 32), (.tmp 34), (.tmp 36), (.tmp 38), (.tmp 40)] [] []⟩, ⟨(some 31), none, .mov (.tmp 41)⟩, ⟨(some 42), none, .ext 0 (.tmp 31)⟩, ⟨(some 43), none, .ext 1 (.tmp 31)⟩, ⟨(some 5), none, .mov (.tmp 42)⟩, ⟨(some 6), none, .mov (.tmp 43)⟩]
def pcashbooklaw25_HoldRankr4 : List GOp := [⟨(some 45), none, .mov (.tmp 0)⟩, ⟨(some 46), none, .fld 0 (.tmp 3)⟩, ⟨(some 47), none, .load false 1 (.tmp 46)⟩, ⟨(some 48), none, .fld 1 (.tmp 3)⟩, ⟨(some 49), none, .load false 1 (.tmp 48)⟩, ⟨(some 50), none, .fld 2 (.tmp 3)⟩, ⟨(some 51), none, .load false 1 (.tmp 50)⟩, ⟨(some 52), none, .call 0 0 (.cst (.fn 37)) [(.tmp 45), (.tmp 47), (.tmp 49), (.tmp 51), (.cst (.int .i64 0))] [] []⟩, ⟨(some 44), none, .mov (.tmp 52)⟩, ⟨(some 53), none, .ext 0 (.tmp 44)⟩, ⟨(some 54), none, .ext 1 (.tmp 44)⟩, ⟨(some 7), none, .mov (.tmp 53)⟩, ⟨(some 8), none, .mov (.tmp 54)⟩]
def pcashbooklaw25_HoldRankr5 : List GOp := [⟨(some 56), none, .mov (.tmp 0)⟩, ⟨(some 57), none, .fld 0 (.tmp 3)⟩, ⟨(some 58), none, .load false 1 (.tmp 57)⟩, ⟨(some 59), none, .fld 1 (.tmp 3)⟩, ⟨(some 60), none, .load false 1 (.tmp 59)⟩, ⟨(some 61), none, .fld 2 (.tmp 3)⟩, ⟨(some 62), none, .load false 1 (.tmp 61)⟩, ⟨(some 63), none, .fld 3 (.tmp 3)⟩, ⟨(some 64), none, .load false 1 (.tmp 63)⟩, ⟨(some 65), none, .call 0 0 (.cst (.fn 37)) [(.tmp 56), (.tmp 58), (.tmp 60), (.tmp 62), (.tmp 64)] [] []⟩, ⟨(some 55), none, .mov (.tmp 65)⟩, ⟨(some 66), none, .ext 0 (.tmp 55)⟩, ⟨(some 67), none, .ext 1 (.tmp 55)⟩, ⟨(some 9), none, .mov (.tmp 66)⟩, ⟨(some 10), none, .mov (.tmp 67)⟩]
def pcashbooklaw25_HoldRankr6 : List GOp := [⟨(some 68), none, .mov (.tmp 6)⟩, ⟨(some 69), none, .bin false .neq (.tmp 68) (.cst (.int .i64 0))⟩, ⟨(some 70), none, .mov (.tmp 69)⟩, ⟨(some 71), (some (70, false)), .mov (.tmp 8)⟩, ⟨(some 72), (some (70, false)), .bin false .neq (.tmp 71) (.cst (.int .i64 0))⟩, ⟨(some 73), none, .pick (.tmp 70) (.cst (.bool true)) (.tmp 72)⟩, ⟨(some 74), none, .mov (.tmp 73)⟩, ⟨(some 75), (some (74, false)), .mov (.tmp 10)⟩, ⟨(some 76), (some (74, false)), .bin false .neq (.tmp 75) (.cst (.int .i64 0))⟩, ⟨(some 77), none, .pick (.tmp 74) (.cst (.bool true)) (.tmp 76)⟩, ⟨(some 78), none, .mov (.tmp 77)⟩, ⟨(some 79), (some (78, false)), .mov (.tmp 9)⟩, ⟨(some 80), (some (78, false)), .mov (.tmp 7)⟩, ⟨(some 81), (some (78, false)), .bin false .gtr (.tmp 79) (.tmp 80)⟩, ⟨(some 82), none, .pick (.tmp 78) (.cst (.bool true)) (.tmp 81)⟩, ⟨(some 83), none, .mov (.tmp 82)⟩, ⟨(some 84), (some (83, false)), .mov (.tmp 9)⟩, ⟨(some 85), (some (83, false)), .bin false .lss (.tmp 84) (.cst (.int .i64 0))⟩, ⟨(some 86), none, .pick (.tmp 83) (.cst (.bool true)) (.tmp 85)⟩, ⟨(some 87), none, .mov (.tmp 86)⟩, ⟨(some 88), (some (87, false)), .fld 3 (.tmp 3)⟩, ⟨(some 89), (some (87, false)), .load false 1 (.tmp 88)⟩, ⟨(some 90), (some (87, false)), .bin false .gtr (.tmp 89) (.cst (.int .i64 9))⟩, ⟨(some 91), (some (87, false)), .mov (.tmp 90)⟩, ⟨(some 92), (some (91, true)), .mov (.tmp 9)⟩, ⟨(some 93), (some (91, true)), .bin false .neq (.tmp 92) (.cst (.int .i64 0))⟩, ⟨(some 94), (some (87, false)), .pick (.tmp 91) (.tmp 93) (.cst (.bool false))⟩, ⟨(some 95), none, .pick (.tmp 87) (.cst (.bool true)) (.tmp 94)⟩]
def pcashbooklaw25_HoldRankr7 : List GOp := [⟨(some 4), none, .mov (.cst (.bool false))⟩]
def pcashbooklaw25_HoldRankr8 : List GOp := [⟨(some 11), none, .mov (.cst (.int .i64 0))⟩]
def pcashbooklaw25_HoldRankr9 : List GOp := [⟨(some 12), none, .mov (.cst (.int .i64 0))⟩]
def pcashbooklaw25_HoldRankr10 : List GOp := [⟨(some 13), none, .mov (.cst (.bool true))⟩]
def pcashbooklaw25_HoldRankr11 : List GOp := [⟨(some 14), none, .mov (.cst (.int .i64 10))⟩]
def pcashbooklaw25_HoldRankr12 : List GOp := [⟨(some 15), none, .mov (.cst (.int .i64 0))⟩]
def pcashbooklaw25_HoldRankr13 : List GOp := [⟨(some 16), none, .mov (.cst (.int .i64 0))⟩]
def pcashbooklaw25_HoldRankr14 : List GOp := [⟨(some 96), none, .mov (.tmp 16)⟩, ⟨(some 97), none, .mov (.tmp 5)⟩, ⟨(some 98), none, .len false (.tmp 97)⟩, ⟨(some 99), none, .bin false .lss (.tmp 96) (.tmp 98)⟩]
def pcashbooklaw25_HoldRankr15 : List GOp := [⟨(some 17), none, .mov (.cst (.int .i64 (-1)))⟩]
def pcashbooklaw25_HoldRankr16 : List GOp := [⟨(some 18), none, .mov (.cst (.int .i64 0))⟩]
def pcashbooklaw25_HoldRankr17 : List GOp := [⟨(some 102), none, .mov (.tmp 18)⟩, ⟨(some 103), none, .mov (.tmp 0)⟩, ⟨(some 104), none, .len false (.tmp 103)⟩, ⟨(some 105), none, .bin false .lss (.tmp 102) (.tmp 104)⟩]
def pcashbooklaw25_HoldRankr18 : List GOp := [⟨(some 108), none, .mov (.tmp 0)⟩, ⟨(some 109), none, .mov (.tmp 18)⟩, ⟨(some 110), none, .idx 9 (.tmp 108) (.tmp 109)⟩, ⟨(some 111), none, .fld 0 (.tmp 110)⟩, ⟨(some 112), none, .load false 1 (.tmp 111)⟩, ⟨(some 113), none, .mov (.tmp 5)⟩, ⟨(some 114), none, .mov (.tmp 16)⟩, ⟨(some 115), none, .idx 2 (.tmp 113) (.tmp 114)⟩, ⟨(some 116), none, .fld 0 (.tmp 115)⟩, ⟨(some 117), none, .load false 1 (.tmp 116)⟩, ⟨(some 118), none, .bin false .eql (.tmp 112) (.tmp 117)⟩]
def pcashbooklaw25_HoldRankr19 : List GOp := [⟨(some 119), none, .mov (.tmp 18)⟩, ⟨(some 17), none, .mov (.tmp 119)⟩]
def pcashbooklaw25_HoldRankr20 : List GOp := [⟨(some 106), none, .mov (.tmp 18)⟩, ⟨(some 107), none, .bin false .add (.tmp 106) (.cst (.int .i64 1))⟩, ⟨(some 18), none, .mov (.tmp 107)⟩]
def pcashbooklaw25_HoldRankl21 : AC := (.keep [] [(0, false), (3, false), (5, false), (7, false), (11, false), (12, false), (13, false), (14, false), (15, false), (16, false), (17, false), (18, false)] [(.loc 3 0, false)] [] [] (.seq (.seq (.ops pcashbooklaw25_HoldRankr17) (.cond (.tmp 105) .skip (.exit 2))) (.seq (.pass 3 (.seq (.draw [] pcashbooklaw25_HoldRankr18) (.cond (.tmp 118) (.ops pcashbooklaw25_HoldRankr19) .skip))) (.keep [] [(0, false), (3, false), (5, false), (7, false), (11, false), (12, false), (13, false), (14, false), (15, false), (16, false), (17, false), (18, false)] [(.loc 3 0, false)] [] [] (.ops pcashbooklaw25_HoldRankr20)))))
def pcashbooklaw25_HoldRankr22 : List GOp := [⟨(some 120), none, .mov (.tmp 17)⟩, ⟨(some 121), none, .bin false .lss (.tmp 120) (.cst (.int .i64 0))⟩]
def pcashbooklaw25_HoldRankr23 : List GOp := [⟨(some 4), none, .mov (.cst (.bool false))⟩]
def pcashbooklaw25_HoldRankr24 : List GOp := [⟨(some 122), none, .mov (.tmp 0)⟩, ⟨(some 123), none, .mov (.tmp 17)⟩, ⟨(some 124), none, .idx 9 (.tmp 122) (.tmp 123)⟩, ⟨(some 125), none, .load true 9 (.tmp 124)⟩, ⟨(some 19), none, .alloc [.pv (.int .i64 0), .pv (.int .i64 0), .pv (.int .i64 0), .pv (.int .i64 0), .pv (.int .i64 0), .pv (.int .i32 0), .pv (.int .i32 0), .pv (.int .i64 0), .pv (.bool false)]⟩, ⟨none, none, .store 9 (.tmp 19) (.tmp 125)⟩]
def pcashbooklaw25_HoldRankr25 : List GOp := [⟨(some 126), none, .load true 9 (.tmp 19)⟩, ⟨(some 127), none, .fld 2 (.tmp 3)⟩, ⟨(some 128), none, .load false 1 (.tmp 127)⟩, ⟨(some 129), none, .call 0 0 (.cst (.fn 42)) [(.tmp 126), (.tmp 128)] [] []⟩, ⟨(some 20), none, .mov (.tmp 129)⟩]
def pcashbooklaw25_HoldRankr26 : List GOp := [⟨(some 130), none, .load true 9 (.tmp 19)⟩, ⟨(some 131), none, .fld 2 (.tmp 3)⟩, ⟨(some 132), none, .load false 1 (.tmp 131)⟩, ⟨(some 133), none, .call 0 0 (.cst (.fn 40)) [(.tmp 130), (.tmp 132)] [] []⟩, ⟨(some 134), none, .un .not (.tmp 133)⟩, ⟨(some 135), none, .mov (.tmp 134)⟩, ⟨(some 136), (some (135, false)), .fld 1 (.tmp 19)⟩, ⟨(some 137), (some (135, false)), .load false 1 (.tmp 136)⟩, ⟨(some 138), (some (135, false)), .fld 0 (.tmp 3)⟩, ⟨(some 139), (some (135, false)), .load false 1 (.tmp 138)⟩, ⟨(some 140), (some (135, false)), .bin false .neq (.tmp 137) (.tmp 139)⟩, ⟨(some 141), none, .pick (.tmp 135) (.cst (.bool true)) (.tmp 140)⟩, ⟨(some 142), none, .mov (.tmp 141)⟩, ⟨(some 143), (some (142, false)), .fld 2 (.tmp 19)⟩, ⟨(some 144), (some (142, false)), .fld 0 (.tmp 143)⟩, ⟨(some 145), (some (142, false)), .load false 1 (.tmp 144)⟩, ⟨(some 146), (some (142, false)), .fld 1 (.tmp 3)⟩, ⟨(some 147), (some (142, false)), .load false 1 (.tmp 146)⟩, ⟨(some 148), (some (142, false)), .bin false .neq (.tmp 145) (.tmp 147)⟩, ⟨(some 149), none, .pick (.tmp 142) (.cst (.bool true)) (.tmp 148)⟩, ⟨(some 150), none, .mov (.tmp 149)⟩, ⟨(some 151), (some (150, false)), .mov (.tmp 5)⟩, ⟨(some 152), (some (150, false)), .mov (.tmp 16)⟩, ⟨(some 153), (some (150, false)), .idx 2 (.tmp 151) (.tmp 152)⟩, ⟨(some 154), (some (150, false)), .fld 1 (.tmp 153)⟩, ⟨(some 155), (some (150, false)), .load false 1 (.tmp 154)⟩, ⟨(some 156), (some (150, false)), .bin false .lss (.tmp 155) (.cst (.int .i64 0))⟩, ⟨(some 157), none, .pick (.tmp 150) (.cst (.bool true)) (.tmp 156)⟩, ⟨(some 158), none, .mov (.tmp 157)⟩, ⟨(some 159), (some (158, false)), .mov (.tmp 5)⟩, ⟨(some 160), (some (158, false)), .mov (.tmp 16)⟩, ⟨(some 161), (some (158, false)), .idx 2 (.tmp 159) (.tmp 160)⟩, ⟨(some 162), (some (158, false)), .fld 1 (.tmp 161)⟩, ⟨(some 163), (some (158, false)), .load false 1 (.tmp 162)⟩, ⟨(some 164), (some (158, false)), .mov (.tmp 20)⟩, ⟨(some 165), (some (158, false)), .bin false .gtr (.tmp 163) (.tmp 164)⟩, ⟨(some 166), none, .pick (.tmp 158) (.cst (.bool true)) (.tmp 165)⟩, ⟨(some 167), none, .mov (.tmp 166)⟩, ⟨(some 168), (some (167, false)), .mov (.tmp 13)⟩, ⟨(some 169), (some (167, false)), .un .not (.tmp 168)⟩, ⟨(some 170), (some (167, false)), .mov (.tmp 169)⟩, ⟨(some 171), (some (170, true)), .mov (.tmp 5)⟩, ⟨(some 172), (some (170, true)), .mov (.tmp 16)⟩, ⟨(some 173), (some (170, true)), .idx 2 (.tmp 171) (.tmp 172)⟩, ⟨(some 174), (some (170, true)), .fld 1 (.tmp 173)⟩, ⟨(some 175), (some (170, true)), .load false 1 (.tmp 174)⟩, ⟨(some 176), (some (170, true)), .bin false .neq (.tmp 175) (.cst (.int .i64 0))⟩, ⟨(some 177), (some (167, false)), .pick (.tmp 170) (.tmp 176) (.cst (.bool false))⟩, ⟨(some 178), none, .pick (.tmp 167) (.cst (.bool true)) (.tmp 177)⟩, ⟨(some 179), none, .mov (.tmp 178)⟩, ⟨(some 180), (some (179, false)), .fld 4 (.tmp 19)⟩, ⟨(some 181), (some (179, false)), .load false 1 (.tmp 180)⟩, ⟨(some 182), (some (179, false)), .mov (.tmp 14)⟩, ⟨(some 183), (some (179, false)), .bin false .gtr (.tmp 181) (.tmp 182)⟩, ⟨(some 184), none, .pick (.tmp 179) (.cst (.bool true)) (.tmp 183)⟩, ⟨(some 185), none, .mov (.tmp 184)⟩, ⟨(some 186), (some (185, false)), .fld 4 (.tmp 19)⟩, ⟨(some 187), (some (185, false)), .load false 1 (.tmp 186)⟩, ⟨(some 188), (some (185, false)), .mov (.tmp 14)⟩, ⟨(some 189), (some (185, false)), .bin false .eql (.tmp 187) (.tmp 188)⟩, ⟨(some 190), (some (185, false)), .mov (.tmp 189)⟩, ⟨(some 191), (some (190, true)), .fld 0 (.tmp 19)⟩, ⟨(some 192), (some (190, true)), .load false 1 (.tmp 191)⟩, ⟨(some 193), (some (190, true)), .mov (.tmp 15)⟩, ⟨(some 194), (some (190, true)), .bin false .leq (.tmp 192) (.tmp 193)⟩, ⟨(some 195), (some (185, false)), .pick (.tmp 190) (.tmp 194) (.cst (.bool false))⟩, ⟨(some 196), none, .pick (.tmp 185) (.cst (.bool true)) (.tmp 195)⟩]
def pcashbooklaw25_HoldRankr27 : List GOp := [⟨(some 4), none, .mov (.cst (.bool false))⟩]
def pcashbooklaw25_HoldRankr28 : List GOp := [⟨(some 197), none, .mov (.tmp 13)⟩, ⟨(some 198), none, .mov (.tmp 197)⟩, ⟨(some 199), (some (198, true)), .mov (.tmp 5)⟩, ⟨(some 200), (some (198, true)), .mov (.tmp 16)⟩, ⟨(some 201), (some (198, true)), .idx 2 (.tmp 199) (.tmp 200)⟩, ⟨(some 202), (some (198, true)), .fld 1 (.tmp 201)⟩, ⟨(some 203), (some (198, true)), .load false 1 (.tmp 202)⟩, ⟨(some 204), (some (198, true)), .mov (.tmp 20)⟩, ⟨(some 205), (some (198, true)), .bin false .eql (.tmp 203) (.tmp 204)⟩, ⟨(some 206), none, .pick (.tmp 198) (.tmp 205) (.cst (.bool false))⟩, ⟨(some 13), none, .mov (.tmp 206)⟩]
def pcashbooklaw25_HoldRankr29 : List GOp := [⟨(some 207), none, .fld 4 (.tmp 19)⟩, ⟨(some 208), none, .load false 1 (.tmp 207)⟩, ⟨(some 14), none, .mov (.tmp 208)⟩]
def pcashbooklaw25_HoldRankr30 : List GOp := [⟨(some 209), none, .fld 0 (.tmp 19)⟩, ⟨(some 210), none, .load false 1 (.tmp 209)⟩, ⟨(some 15), none, .mov (.tmp 210)⟩]
def pcashbooklaw25_HoldRankr31 : List GOp := [⟨(some 211), none, .mov (.tmp 11)⟩, ⟨(some 212), none, .mov (.tmp 5)⟩, ⟨(some 213), none, .mov (.tmp 16)⟩, ⟨(some 214), none, .idx 2 (.tmp 212) (.tmp 213)⟩, ⟨(some 215), none, .fld 1 (.tmp 214)⟩, ⟨(some 216), none, .load false 1 (.tmp 215)⟩, ⟨(some 217), none, .bin false .add (.tmp 211) (.tmp 216)⟩, ⟨(some 11), none, .mov (.tmp 217)⟩]
def pcashbooklaw25_HoldRankr32 : List GOp := [⟨(some 100), none, .mov (.tmp 16)⟩, ⟨(some 101), none, .bin false .add (.tmp 100) (.cst (.int .i64 1))⟩, ⟨(some 16), none, .mov (.tmp 101)⟩]
def pcashbooklaw25_HoldRankl33 : AC := (.keep [] [(0, false), (3, false), (5, false), (7, false), (11, false), (12, false), (13, false), (14, false), (15, false), (16, false)] [(.loc 3 0, false)] [.loc 19 0] [] (.seq (.seq (.ops pcashbooklaw25_HoldRankr14) (.cond (.tmp 99) .skip (.exit 0))) (.seq (.pass 1 (.seq (.ops pcashbooklaw25_HoldRankr15) (.seq (.seq (.ops pcashbooklaw25_HoldRankr16) (.block 2 (.loop [0, 3, 5, 7, 11, 12, 13, 14, 15, 16, 17, 18] [] pcashbooklaw25_HoldRankl21))) (.seq (.seq (.keep [] [(0, false), (3, false), (5, false), (7, false), (11, false), (12, false), (13, false), (14, false), (15, false), (16, false), (17, false)] [(.loc 3 0, false)] [] [] (.ops pcashbooklaw25_HoldRankr22)) (.cond (.tmp 121) (.seq (.ops pcashbooklaw25_HoldRankr23) (.keep [] [(4, false)] [] [.loc 19 0, .loc 3 0] [] .ret)) .skip)) (.seq (.ops pcashbooklaw25_HoldRankr24) (.seq (.ops pcashbooklaw25_HoldRankr25) (.seq (.seq (.ops pcashbooklaw25_HoldRankr26) (.cond (.tmp 196) (.seq (.ops pcashbooklaw25_HoldRankr27) (.keep [] [(4, false)] [] [.loc 19 0, .loc 3 0] [] .ret)) .skip)) (.seq (.ops pcashbooklaw25_HoldRankr28) (.seq (.ops pcashbooklaw25_HoldRankr29) (.seq (.ops pcashbooklaw25_HoldRankr30) (.ops pcashbooklaw25_HoldRankr31))))))))))) (.ops pcashbooklaw25_HoldRankr32))))
def pcashbooklaw25_HoldRankr34 : List GOp := [⟨(some 21), none, .mov (.cst (.int .i64 0))⟩]
def pcashbooklaw25_HoldRankr35 : List GOp := [⟨(some 218), none, .mov (.tmp 21)⟩, ⟨(some 219), none, .mov (.tmp 0)⟩, ⟨(some 220), none, .len false (.tmp 219)⟩, ⟨(some 221), none, .bin false .lss (.tmp 218) (.tmp 220)⟩]
def pcashbooklaw25_HoldRankr36 : List GOp := [⟨(some 224), none, .mov (.tmp 0)⟩, ⟨(some 225), none, .mov (.tmp 21)⟩, ⟨(some 226), none, .idx 9 (.tmp 224) (.tmp 225)⟩, ⟨(some 227), none, .load true 9 (.tmp 226)⟩, ⟨(some 228), none, .fld 2 (.tmp 3)⟩, ⟨(some 229), none, .load false 1 (.tmp 228)⟩, ⟨(some 230), none, .call 0 0 (.cst (.fn 40)) [(.tmp 227), (.tmp 229)] [] []⟩, ⟨(some 231), none, .mov (.tmp 230)⟩, ⟨(some 232), (some (231, true)), .mov (.tmp 0)⟩, ⟨(some 233), (some (231, true)), .mov (.tmp 21)⟩, ⟨(some 234), (some (231, true)), .idx 9 (.tmp 232) (.tmp 233)⟩, ⟨(some 235), (some (231, true)), .fld 1 (.tmp 234)⟩, ⟨(some 236), (some (231, true)), .load false 1 (.tmp 235)⟩, ⟨(some 237), (some (231, true)), .fld 0 (.tmp 3)⟩, ⟨(some 238), (some (231, true)), .load false 1 (.tmp 237)⟩, ⟨(some 239), (some (231, true)), .bin false .eql (.tmp 236) (.tmp 238)⟩, ⟨(some 240), none, .pick (.tmp 231) (.tmp 239) (.cst (.bool false))⟩, ⟨(some 241), none, .mov (.tmp 240)⟩, ⟨(some 242), (some (241, true)), .mov (.tmp 0)⟩, ⟨(some 243), (some (241, true)), .mov (.tmp 21)⟩, ⟨(some 244), (some (241, true)), .idx 9 (.tmp 242) (.tmp 243)⟩, ⟨(some 245), (some (241, true)), .fld 2 (.tmp 244)⟩, ⟨(some 246), (some (241, true)), .fld 0 (.tmp 245)⟩, ⟨(some 247), (some (241, true)), .load false 1 (.tmp 246)⟩, ⟨(some 248), (some (241, true)), .fld 1 (.tmp 3)⟩, ⟨(some 249), (some (241, true)), .load false 1 (.tmp 248)⟩, ⟨(some 250), (some (241, true)), .bin false .eql (.tmp 247) (.tmp 249)⟩, ⟨(some 251), none, .pick (.tmp 241) (.tmp 250) (.cst (.bool false))⟩]
def pcashbooklaw25_HoldRankr37 : List GOp := [⟨(some 252), none, .mov (.tmp 12)⟩, ⟨(some 253), none, .bin false .add (.tmp 252) (.cst (.int .i64 1))⟩, ⟨(some 12), none, .mov (.tmp 253)⟩]
def pcashbooklaw25_HoldRankr38 : List GOp := [⟨(some 222), none, .mov (.tmp 21)⟩, ⟨(some 223), none, .bin false .add (.tmp 222) (.cst (.int .i64 1))⟩, ⟨(some 21), none, .mov (.tmp 223)⟩]
def pcashbooklaw25_HoldRankl39 : AC := (.keep [] [(0, false), (3, false), (5, false), (7, false), (11, false), (12, false), (21, false)] [(.loc 3 0, false)] [] [] (.seq (.seq (.ops pcashbooklaw25_HoldRankr35) (.cond (.tmp 221) .skip (.exit 4))) (.seq (.pass 5 (.seq (.draw [] pcashbooklaw25_HoldRankr36) (.cond (.tmp 251) (.ops pcashbooklaw25_HoldRankr37) .skip))) (.keep [] [(0, false), (3, false), (5, false), (7, false), (11, false), (12, false), (21, false)] [(.loc 3 0, false)] [] [] (.ops pcashbooklaw25_HoldRankr38)))))
def pcashbooklaw25_HoldRankr40 : List GOp := [⟨(some 254), none, .call 0 0 (.cst (.fn 35)) [] [] []⟩, ⟨(some 255), none, .mov (.tmp 254)⟩, ⟨(some 256), (some (255, true)), .mov (.tmp 12)⟩, ⟨(some 257), (some (255, true)), .mov (.tmp 5)⟩, ⟨(some 258), (some (255, true)), .len false (.tmp 257)⟩, ⟨(some 259), (some (255, true)), .bin false .eql (.tmp 256) (.tmp 258)⟩, ⟨(some 260), none, .pick (.tmp 255) (.tmp 259) (.cst (.bool false))⟩, ⟨(some 261), none, .mov (.tmp 260)⟩, ⟨(some 262), (some (261, true)), .mov (.tmp 11)⟩, ⟨(some 263), (some (261, true)), .fld 4 (.tmp 3)⟩, ⟨(some 264), (some (261, true)), .load false 1 (.tmp 263)⟩, ⟨(some 265), (some (261, true)), .mm true (.tmp 264) [(.cst (.int .i64 0))]⟩, ⟨(some 266), (some (261, true)), .mov (.tmp 7)⟩, ⟨(some 267), (some (261, true)), .mm false (.tmp 265) [(.tmp 266)]⟩, ⟨(some 268), (some (261, true)), .bin false .eql (.tmp 262) (.tmp 267)⟩, ⟨(some 269), none, .pick (.tmp 261) (.tmp 268) (.cst (.bool false))⟩, ⟨(some 4), none, .mov (.tmp 269)⟩]
def pcashbooklaw25_HoldRankb : AC := (.seq (.ops pcashbooklaw25_HoldRankr0) (.seq (.seq (.ops pcashbooklaw25_HoldRankr1) (.cond (.tmp 29) (.seq (.ops pcashbooklaw25_HoldRankr2) (.keep [] [(4, false)] [] [.loc 19 0, .loc 3 0] [] .ret)) .skip)) (.seq (.ops pcashbooklaw25_HoldRankr3) (.seq (.ops pcashbooklaw25_HoldRankr4) (.seq (.ops pcashbooklaw25_HoldRankr5) (.seq (.seq (.ops pcashbooklaw25_HoldRankr6) (.cond (.tmp 95) (.seq (.ops pcashbooklaw25_HoldRankr7) (.keep [] [(4, false)] [] [.loc 19 0, .loc 3 0] [] .ret)) .skip)) (.seq (.ops pcashbooklaw25_HoldRankr8) (.seq (.ops pcashbooklaw25_HoldRankr9) (.seq (.ops pcashbooklaw25_HoldRankr10) (.seq (.ops pcashbooklaw25_HoldRankr11) (.seq (.ops pcashbooklaw25_HoldRankr12) (.seq (.seq (.ops pcashbooklaw25_HoldRankr13) (.block 0 (.loop [0, 3, 5, 7, 11, 12, 13, 14, 15, 16] [] pcashbooklaw25_HoldRankl33))) (.seq (.seq (.keep [] [(0, false), (3, false), (5, false), (7, false), (11, false), (12, false)] [(.loc 3 0, false)] [] [] (.ops pcashbooklaw25_HoldRankr34)) (.block 4 (.loop [0, 3, 5, 7, 11, 12, 21] [] pcashbooklaw25_HoldRankl39))) (.seq (.keep [] [(3, false), (5, false), (7, false), (11, false), (12, false)] [(.loc 3 0, false)] [] [] (.ops pcashbooklaw25_HoldRankr40)) (.keep [] [(4, false)] [] [.loc 19 0, .loc 3 0] [] .ret)))))))))))))))
def pcashbooklaw25_HoldRank : Fd := ⟨2, [.tmp 4], [], pcashbooklaw25_HoldRankb⟩
theorem pcashbooklaw25_HoldRank_ag : agreeF Try.prog Try.f10 pcashbooklaw25_HoldRank = true := by kernel_rfl
theorem cashbooklaw25_HoldRank_ok {l1 : List T_api_Hold} {x2 : T_cashbooklaw25_Ask} {r : Bool} (h : cashbooklaw25_HoldRank l1 x2 = some r) : Contract Try.prog 10 [.pv (.slice (List.map T_api_Hold.pv l1)), .pv (T_cashbooklaw25_Ask.pv x2)] [] ⟨.pv (.bool r), [], []⟩ := by
  refine contract_fin hm Try.func10 pcashbooklaw25_HoldRank_ag (by kernel_rfl) ?_
  unfold cashbooklaw25_HoldRank at h
  refine W.seqOps (RunR.all (by kernel_rfl)) ?_
  refine W.assoc ?_
  replace h := bindS h
  obtain ⟨c3, hc3, h⟩ := h
  replace h := bindS h
  obtain ⟨x4, hx4, h⟩ := h
  refine W.seqOps (RunR.stat 1 (by kernel_rfl) (RunR.dyn (Step.lenT (f := T_api_Hold.pv) (l := l1) (by kernel_rfl)) (RunR.stat 1 (by kernel_rfl) (RunR.dyn (Step.name (f := eBool) (e := decide ((l1.length : Int) > 300)) (c := c3) (by kernel_rfl) hc3) (RunR.puts 1 [(26, (bif !c3 then (.pv (.slice (List.map T_api_Hold.pv l1))) else (.tup [])))] (by cases c3 <;> kernel_rfl) (RunR.cons (tab_cons (on := (!c3)) (fun hg => hold_Check_ok (gdO_at hg hx4)) tab_nil) (Step.gdG (!c3) (by kernel_rfl) (by
        cases c3
        · exact .inr ⟨by kernel_rfl, by kernel_rfl, Step.call0 (g := 36) (caps := []) (v := .pv (.int .i64 x4)) (by kernel_rfl) (by kernel_rfl) (by kernel_rfl) (tab_hit (by kernel_rfl)) (by kernel_rfl)⟩
        · exact .inl ⟨by kernel_rfl, by kernel_rfl⟩)) (RunR.puts 2 [(29, .pv (.bool (c3 || (x4 != 0)))), (28, (bif !c3 then (.pv (.bool (x4 != 0))) else (.tup [])))] (by cases c3 <;> kernel_rfl) ((.nil _))))))))) ?_
  refine W.seqCond (t := (c3 || (x4 != 0))) (by kernel_rfl) h (fun hc h' => ?_) (fun hc h' => ?_)
  · replace h := h'
    refine W.assoc ?_
    replace h := bindS h
    obtain ⟨x5, hx5, h⟩ := h
    refine W.seqOps (RunR.cons (tab_cons (on := true) (fun _ => cashbooklaw25_alive_ok hx5) tab_nil) (Step.call0 (g := 35) (caps := []) (v := .pv (.bool x5)) (by kernel_rfl) (by kernel_rfl) (by kernel_rfl) (tab_hit (by kernel_rfl)) (by kernel_rfl)) (RunR.all (by kernel_rfl))) ?_
    refine W.seqKeep rfl ?_
    cases h
    exact W.seqRet ((fin_ret (by kernel_rfl)))
  · replace h := h'
    refine W.seqSkip ?_
    replace h := bindS h
    obtain ⟨x6, hx6, h⟩ := h
    refine W.seqOps (RunR.stat 9 (by kernel_rfl) (RunR.cons (tab_cons (on := true) (fun _ => hold_Cover_ok hx6) tab_nil) (Step.call0 (g := 38) (caps := []) (v := .tup [.pv (.slice (List.map T_api_Covered.pv x6.1)), .pv (.int .i64 x6.2)]) (by kernel_rfl) (by kernel_rfl) (by kernel_rfl) (tab_hit (by kernel_rfl)) (by kernel_rfl)) (RunR.all (by kernel_rfl)))) ?_
    replace h := bindS h
    obtain ⟨x7, hx7, h⟩ := h
    refine W.seqOps (RunR.stat 7 (by kernel_rfl) (RunR.cons (tab_cons (on := true) (fun _ => hold_Sum_ok hx7) tab_nil) (Step.call0 (g := 37) (caps := []) (v := .tup [.pv (.int .i64 x7.1), .pv (.int .i64 x7.2)]) (by kernel_rfl) (by kernel_rfl) (by kernel_rfl) (tab_hit (by kernel_rfl)) (by kernel_rfl)) (RunR.all (by kernel_rfl)))) ?_
    replace h := bindS h
    obtain ⟨x8, hx8, h⟩ := h
    refine W.seqOps (RunR.stat 9 (by kernel_rfl) (RunR.cons (tab_cons (on := true) (fun _ => hold_Sum_ok hx8) tab_nil) (Step.call0 (g := 37) (caps := []) (v := .tup [.pv (.int .i64 x8.1), .pv (.int .i64 x8.2)]) (by kernel_rfl) (by kernel_rfl) (by kernel_rfl) (tab_hit (by kernel_rfl)) (by kernel_rfl)) (RunR.all (by kernel_rfl)))) ?_
    refine W.assoc ?_
    replace h := bindS h
    obtain ⟨c9, hc9, h⟩ := h
    replace h := bindS h
    obtain ⟨c10, hc10, h⟩ := h
    replace h := bindS h
    obtain ⟨c11, hc11, h⟩ := h
    replace h := bindS h
    obtain ⟨c12, hc12, h⟩ := h
    replace h := bindS h
    obtain ⟨c13, hc13, h⟩ := h
    replace h := bindS h
    obtain ⟨c14, hc14, h⟩ := h
    refine W.seqOps (RunR.stat 2 (by kernel_rfl) (RunR.dyn (Step.name (f := eBool) (e := (x6.2 != 0)) (c := c9) (by kernel_rfl) hc9) (RunR.puts 3 [(73, .pv (.bool (c9 || (x7.2 != 0)))), (72, (bif !c9 then (.pv (.bool (x7.2 != 0))) else (.tup []))), (71, (bif !c9 then (.pv (.int .i64 x7.2)) else (.tup [])))] (by cases c9 <;> kernel_rfl) (RunR.dyn (Step.name (f := eBool) (e := (c9 || (x7.2 != 0))) (c := c10) (by kernel_rfl) hc10) (RunR.puts 3 [(77, .pv (.bool (c10 || (x8.2 != 0)))), (76, (bif !c10 then (.pv (.bool (x8.2 != 0))) else (.tup []))), (75, (bif !c10 then (.pv (.int .i64 x8.2)) else (.tup [])))] (by cases c10 <;> kernel_rfl) (RunR.dyn (Step.name (f := eBool) (e := (c10 || (x8.2 != 0))) (c := c11) (by kernel_rfl) hc11) (RunR.puts 4 [(82, .pv (.bool (c11 || (decide (x8.1 > x7.1))))), (81, (bif !c11 then (.pv (.bool (decide (x8.1 > x7.1)))) else (.tup []))), (80, (bif !c11 then (.pv (.int .i64 x7.1)) else (.tup []))), (79, (bif !c11 then (.pv (.int .i64 x8.1)) else (.tup [])))] (by cases c11 <;> kernel_rfl) (RunR.dyn (Step.name (f := eBool) (e := (c11 || (decide (x8.1 > x7.1)))) (c := c12) (by kernel_rfl) hc12) (RunR.puts 3 [(86, .pv (.bool (c12 || (decide (x8.1 < 0))))), (85, (bif !c12 then (.pv (.bool (decide (x8.1 < 0)))) else (.tup []))), (84, (bif !c12 then (.pv (.int .i64 x8.1)) else (.tup [])))] (by cases c12 <;> kernel_rfl) (RunR.dyn (Step.name (f := eBool) (e := (c12 || (decide (x8.1 < 0)))) (c := c13) (by kernel_rfl) hc13) (RunR.puts 3 [(90, (bif !c13 then (.pv (.bool (decide (x2.f_Rank > 9)))) else (.tup []))), (89, (bif !c13 then (.pv (.int .i64 x2.f_Rank)) else (.tup []))), (88, (bif !c13 then (.ptr (.loc 3 0) 3) else (.tup [])))] (by cases c13 <;> kernel_rfl) (RunR.dyn (Step.gdG (!c13) (by kernel_rfl) (by
          cases c13
          · exact .inr ⟨by kernel_rfl, by kernel_rfl, Step.name (f := eBool) (e := decide (x2.f_Rank > 9)) (c := c14) (by kernel_rfl) hc14⟩
          · exact .inl ⟨by kernel_rfl, by kernel_rfl⟩)) (RunR.puts 4 [(95, .pv (.bool (c13 || (c14 && (x8.1 != 0))))), (94, (bif !c13 then (.pv (.bool (c14 && (x8.1 != 0)))) else (.tup []))), (93, (bif ((!c13) && c14) then (.pv (.bool (x8.1 != 0))) else (.tup []))), (92, (bif ((!c13) && c14) then (.pv (.int .i64 x8.1)) else (.tup [])))] (by cases c13 <;> cases c14 <;> kernel_rfl) ((.nil _))))))))))))))) ?_
    refine W.seqCond (t := (c13 || (c14 && (x8.1 != 0)))) (by kernel_rfl) h (fun hc h' => ?_) (fun hc h' => ?_)
    · replace h := h'
      refine W.assoc ?_
      refine W.seqOps (RunR.all (by kernel_rfl)) ?_
      refine W.seqKeep rfl ?_
      cases h
      exact W.seqRet ((fin_ret (by kernel_rfl)))
    · replace h := h'
      refine W.seqSkip ?_
      refine W.seqOps (RunR.all (by kernel_rfl)) ?_
      refine W.seqOps (RunR.all (by kernel_rfl)) ?_
      refine W.seqOps (RunR.all (by kernel_rfl)) ?_
      refine W.seqOps (RunR.all (by kernel_rfl)) ?_
      refine W.seqOps (RunR.all (by kernel_rfl)) ?_
      refine W.assoc ?_
      refine W.seqOps (RunR.all (by kernel_rfl)) ?_
      replace h := bindS h
      obtain ⟨j15, hj15, h⟩ := h
      refine W.joinOut (j := j15) (o := r) (fun p σ => σ.tidy [] [(0, false), (3, false), (5, false), (7, false), (11, false), (12, false)] [(.loc 3 0, false)] [] [] = ⟨[(0, .pv (.slice (List.map T_api_Hold.pv l1))), (3, .ptr (.loc 3 0) 0), (5, .pv (.slice (List.map T_api_Covered.pv x6.1))), (7, .pv (.int .i64 x7.1)), (11, .pv (.int .i64 p)), (12, .pv (.int .i64 0))], [(.loc 3 0, .box [.pv (.int .i64 x2.f_Acc), .pv (.int .i64 x2.f_Cur), .pv (.int .i32 x2.f_Now), .pv (.int .i64 x2.f_Rank), .pv (.int .i64 x2.f_Funds), .pv (.int .i64 x2.f_H.f_ID), .pv (.int .i64 x2.f_H.f_Acc), .pv (.int .i64 x2.f_H.f_Amount.f_Cur), .pv (.int .i64 x2.f_H.f_Amount.f_Minor), .pv (.int .i64 x2.f_H.f_Rank), .pv (.int .i32 x2.f_H.f_Made), .pv (.int .i32 x2.f_H.f_Until), .pv (.int .i64 x2.f_H.f_Taken), .pv (.bool x2.f_H.f_Done)])]⟩) ?_ (fun sum46 σj15 hp hsj15 => ?_) (fun p hp => ?_)
      · refine W.blockLoopO (fun q σ => ((σ.forget [0, 3, 5, 7, 11, 12, 13, 14, 15, 16]).killAll []).tidy [] [(0, false), (3, false), (5, false), (7, false), (11, false), (12, false), (13, false), (14, false), (15, false), (16, false)] [(.loc 3 0, false)] [.loc 19 0] [] = ⟨[(0, .pv (.slice (List.map T_api_Hold.pv l1))), (3, .ptr (.loc 3 0) 0), (5, .pv (.slice (List.map T_api_Covered.pv x6.1))), (7, .pv (.int .i64 x7.1)), (11, .pv (.int .i64 q.1)), (12, .pv (.int .i64 0)), (13, .pv (.bool q.2.1)), (14, .pv (.int .i64 q.2.2.1)), (15, .pv (.int .i64 q.2.2.2.1)), (16, .pv (.int .i64 q.2.2.2.2))], [(.loc 3 0, .box [.pv (.int .i64 x2.f_Acc), .pv (.int .i64 x2.f_Cur), .pv (.int .i32 x2.f_Now), .pv (.int .i64 x2.f_Rank), .pv (.int .i64 x2.f_Funds), .pv (.int .i64 x2.f_H.f_ID), .pv (.int .i64 x2.f_H.f_Acc), .pv (.int .i64 x2.f_H.f_Amount.f_Cur), .pv (.int .i64 x2.f_H.f_Amount.f_Minor), .pv (.int .i64 x2.f_H.f_Rank), .pv (.int .i32 x2.f_H.f_Made), .pv (.int .i32 x2.f_H.f_Until), .pv (.int .i64 x2.f_H.f_Taken), .pv (.bool x2.f_H.f_Done)])]⟩) hj15 ?_ ?_
        · show _ = _
          kernel_rfl
        · intro q σj15 oj15 hJj15 h
          obtain ⟨sum16, full17, rank18, id19, i20⟩ := q
          refine W.keep hJj15 ?_
          refine W.assoc ?_
          refine W.seqOps (RunR.stat 2 (by kernel_rfl) (RunR.dyn (Step.lenT (f := T_api_Covered.pv) (l := x6.1) (by kernel_rfl)) (RunR.all (by kernel_rfl)))) ?_
          refine W.seqCond (t := decide (i20 < (x6.1.length : Int))) (by kernel_rfl) h (fun hc h' => ?_) (fun hc h' => ?_)
          · replace h := h'
            refine W.seqSkip ?_
            refine W.seqPass ?_
            refine W.assoc ?_
            refine W.seqOps (RunR.all (by kernel_rfl)) ?_
            refine W.assoc ?_
            refine W.assoc ?_
            refine W.seqOps (RunR.all (by kernel_rfl)) ?_
            replace h := bindS h
            obtain ⟨j21, hj21, h⟩ := h
            refine W.join (j := j21) (fun p σ => σ.tidy [] [(0, false), (3, false), (5, false), (7, false), (11, false), (12, false), (13, false), (14, false), (15, false), (16, false), (17, false)] [(.loc 3 0, false)] [] [] = ⟨[(0, .pv (.slice (List.map T_api_Hold.pv l1))), (3, .ptr (.loc 3 0) 0), (5, .pv (.slice (List.map T_api_Covered.pv x6.1))), (7, .pv (.int .i64 x7.1)), (11, .pv (.int .i64 sum16)), (12, .pv (.int .i64 0)), (13, .pv (.bool full17)), (14, .pv (.int .i64 rank18)), (15, .pv (.int .i64 id19)), (16, .pv (.int .i64 i20)), (17, .pv (.int .i64 p))], [(.loc 3 0, .box [.pv (.int .i64 x2.f_Acc), .pv (.int .i64 x2.f_Cur), .pv (.int .i32 x2.f_Now), .pv (.int .i64 x2.f_Rank), .pv (.int .i64 x2.f_Funds), .pv (.int .i64 x2.f_H.f_ID), .pv (.int .i64 x2.f_H.f_Acc), .pv (.int .i64 x2.f_H.f_Amount.f_Cur), .pv (.int .i64 x2.f_H.f_Amount.f_Minor), .pv (.int .i64 x2.f_H.f_Rank), .pv (.int .i32 x2.f_H.f_Made), .pv (.int .i32 x2.f_H.f_Until), .pv (.int .i64 x2.f_H.f_Taken), .pv (.bool x2.f_H.f_Done)])]⟩) ?_ (fun σj21 hsj21 => ?_)
            · refine W.blockLoop (fun q σ => ((σ.forget [0, 3, 5, 7, 11, 12, 13, 14, 15, 16, 17, 18]).killAll []).tidy [] [(0, false), (3, false), (5, false), (7, false), (11, false), (12, false), (13, false), (14, false), (15, false), (16, false), (17, false), (18, false)] [(.loc 3 0, false)] [] [] = ⟨[(0, .pv (.slice (List.map T_api_Hold.pv l1))), (3, .ptr (.loc 3 0) 0), (5, .pv (.slice (List.map T_api_Covered.pv x6.1))), (7, .pv (.int .i64 x7.1)), (11, .pv (.int .i64 sum16)), (12, .pv (.int .i64 0)), (13, .pv (.bool full17)), (14, .pv (.int .i64 rank18)), (15, .pv (.int .i64 id19)), (16, .pv (.int .i64 i20)), (17, .pv (.int .i64 q.1)), (18, .pv (.int .i64 q.2))], [(.loc 3 0, .box [.pv (.int .i64 x2.f_Acc), .pv (.int .i64 x2.f_Cur), .pv (.int .i32 x2.f_Now), .pv (.int .i64 x2.f_Rank), .pv (.int .i64 x2.f_Funds), .pv (.int .i64 x2.f_H.f_ID), .pv (.int .i64 x2.f_H.f_Acc), .pv (.int .i64 x2.f_H.f_Amount.f_Cur), .pv (.int .i64 x2.f_H.f_Amount.f_Minor), .pv (.int .i64 x2.f_H.f_Rank), .pv (.int .i32 x2.f_H.f_Made), .pv (.int .i32 x2.f_H.f_Until), .pv (.int .i64 x2.f_H.f_Taken), .pv (.bool x2.f_H.f_Done)])]⟩) hj21 ?_ ?_
              · show _ = _
                kernel_rfl
              · intro q σj21 oj21 hJj21 h
                obtain ⟨at_22, k23⟩ := q
                refine W.keep hJj21 ?_
                refine W.assoc ?_
                refine W.seqOps (RunR.stat 2 (by kernel_rfl) (RunR.dyn (Step.lenT (f := T_api_Hold.pv) (l := l1) (by kernel_rfl)) (RunR.all (by kernel_rfl)))) ?_
                refine W.seqCond (t := decide (k23 < (l1.length : Int))) (by kernel_rfl) h (fun hc h' => ?_) (fun hc h' => ?_)
                · replace h := h'
                  refine W.seqSkip ?_
                  refine W.seqPass ?_
                  refine W.assoc ?_
                  replace h := bindS h
                  obtain ⟨x24, hx24, h⟩ := h
                  replace h := bindS h
                  obtain ⟨x25, hx25, h⟩ := h
                  refine W.seqDraw tab_nil (Run.stat 2 (by kernel_rfl) (Run.dyn (Step.idxT (f := T_api_Hold.pv) (l := l1) (n := k23) (e := x24) (k := .i64) (by kernel_rfl) (by kernel_rfl) hx24 (by kernel_rfl)) (Run.stat 4 (by kernel_rfl) (Run.dyn (Step.idxT (f := T_api_Covered.pv) (l := x6.1) (n := i20) (e := x25) (k := .i64) (by kernel_rfl) (by kernel_rfl) hx25 (by kernel_rfl)) (Run.all (by kernel_rfl)))))) ?_
                  replace h := bindS h
                  obtain ⟨j26, hj26, h⟩ := h
                  refine W.join (j := j26) (fun p σ => σ.tidy [] [(0, false), (3, false), (5, false), (7, false), (11, false), (12, false), (13, false), (14, false), (15, false), (16, false), (17, false), (18, false)] [(.loc 3 0, false)] [] [] = ⟨[(0, .pv (.slice (List.map T_api_Hold.pv l1))), (3, .ptr (.loc 3 0) 0), (5, .pv (.slice (List.map T_api_Covered.pv x6.1))), (7, .pv (.int .i64 x7.1)), (11, .pv (.int .i64 sum16)), (12, .pv (.int .i64 0)), (13, .pv (.bool full17)), (14, .pv (.int .i64 rank18)), (15, .pv (.int .i64 id19)), (16, .pv (.int .i64 i20)), (17, .pv (.int .i64 p)), (18, .pv (.int .i64 k23))], [(.loc 3 0, .box [.pv (.int .i64 x2.f_Acc), .pv (.int .i64 x2.f_Cur), .pv (.int .i32 x2.f_Now), .pv (.int .i64 x2.f_Rank), .pv (.int .i64 x2.f_Funds), .pv (.int .i64 x2.f_H.f_ID), .pv (.int .i64 x2.f_H.f_Acc), .pv (.int .i64 x2.f_H.f_Amount.f_Cur), .pv (.int .i64 x2.f_H.f_Amount.f_Minor), .pv (.int .i64 x2.f_H.f_Rank), .pv (.int .i32 x2.f_H.f_Made), .pv (.int .i32 x2.f_H.f_Until), .pv (.int .i64 x2.f_H.f_Taken), .pv (.bool x2.f_H.f_Done)])]⟩) ?_ (fun σj26 hsj26 => ?_)
                  · replace h := hj26
                    refine W.condI (t := (x24.f_ID == x25.f_ID)) (by kernel_rfl) h (fun hc h' => ?_) (fun hc h' => ?_)
                    · replace h := h'
                      refine W.ops (RunR.all (by kernel_rfl)) ?_
                      cases h
                      exact (normw (by (show _ = _); kernel_rfl))
                    · replace h := h'
                      cases h
                      exact W.skip ((normw (by (show _ = _); kernel_rfl)))
                  · refine W.keep hsj26 ?_
                    refine W.ops (RunR.all (by kernel_rfl)) ?_
                    cases h
                    exact (outw_in (by (show _ = _); kernel_rfl))
                · replace h := h'
                  cases h
                  exact W.seqExit ((outw_out exit_ne (bnorm_x (by (show _ = _); kernel_rfl))))
            · refine W.assoc ?_
              refine W.assoc ?_
              refine W.seqKeep hsj21 ?_
              refine W.seqOps (RunR.all (by kernel_rfl)) ?_
              refine W.seqCond (t := decide (j21 < 0)) (by kernel_rfl) h (fun hc h' => ?_) (fun hc h' => ?_)
              · replace h := h'
                refine W.assoc ?_
                refine W.seqOps (RunR.all (by kernel_rfl)) ?_
                refine W.seqKeep rfl ?_
                cases h
                exact W.seqRet ((outw_out ret_ne (bout_o ret_ne ret_ne' (fun e => by subst e; exact (fin_ret (by kernel_rfl))))))
              · replace h := h'
                refine W.seqSkip ?_
                refine W.assoc ?_
                replace h := bindS h
                obtain ⟨x29, hx29, h⟩ := h
                refine W.seqOps (RunR.stat 2 (by kernel_rfl) (RunR.dyn (Step.idxT (f := T_api_Hold.pv) (l := l1) (n := j21) (e := x29) (k := .i64) (by kernel_rfl) (by kernel_rfl) hx29 (by kernel_rfl)) (RunR.all (by kernel_rfl)))) ?_
                refine W.assoc ?_
                replace h := bindS h
                obtain ⟨x30, hx30, h⟩ := h
                refine W.seqOps (RunR.stat 3 (by kernel_rfl) (RunR.cons (tab_cons (on := true) (fun _ => hold_Rest_ok hx30) tab_nil) (Step.call0 (g := 42) (caps := []) (v := .pv (.int .i64 x30)) (by kernel_rfl) (by kernel_rfl) (by kernel_rfl) (tab_hit (by kernel_rfl)) (by kernel_rfl)) (RunR.all (by kernel_rfl)))) ?_
                refine W.assoc ?_
                refine W.assoc ?_
                replace h := bindS h
                obtain ⟨x31, hx31, h⟩ := h
                replace h := bindS h
                obtain ⟨c32, hc32, h⟩ := h
                replace h := bindS h
                obtain ⟨c33, hc33, h⟩ := h
                replace h := bindS h
                obtain ⟨c34, hc34, h⟩ := h
                replace h := bindS h
                obtain ⟨x35, hx35, h⟩ := h
                replace h := bindS h
                obtain ⟨c36, hc36, h⟩ := h
                replace h := bindS h
                obtain ⟨x37, hx37, h⟩ := h
                replace h := bindS h
                obtain ⟨c38, hc38, h⟩ := h
                replace h := bindS h
                obtain ⟨c39, hc39, h⟩ := h
                replace h := bindS h
                obtain ⟨x40, hx40, h⟩ := h
                replace h := bindS h
                obtain ⟨c41, hc41, h⟩ := h
                replace h := bindS h
                obtain ⟨c42, hc42, h⟩ := h
                replace h := bindS h
                obtain ⟨c43, hc43, h⟩ := h
                refine W.seqOps (RunR.stat 3 (by kernel_rfl) (RunR.cons (tab_cons (on := true) (fun _ => hold_Live_ok hx31) tab_nil) (Step.call0 (g := 40) (caps := []) (v := .pv (.bool x31)) (by kernel_rfl) (by kernel_rfl) (by kernel_rfl) (tab_hit (by kernel_rfl)) (by kernel_rfl)) (RunR.stat 1 (by kernel_rfl) (RunR.dyn (Step.name (f := eBool) (e := !x31) (c := c32) (by kernel_rfl) hc32) (RunR.puts 6 [(141, .pv (.bool (c32 || (x29.f_Acc != x2.f_Acc)))), (140, (bif !c32 then (.pv (.bool (x29.f_Acc != x2.f_Acc))) else (.tup []))), (139, (bif !c32 then (.pv (.int .i64 x2.f_Acc)) else (.tup []))), (138, (bif !c32 then (.ptr (.loc 3 0) 0) else (.tup []))), (137, (bif !c32 then (.pv (.int .i64 x29.f_Acc)) else (.tup []))), (136, (bif !c32 then (.ptr (.loc 19 0) 1) else (.tup [])))] (by cases c32 <;> kernel_rfl) (RunR.dyn (Step.name (f := eBool) (e := (c32 || (x29.f_Acc != x2.f_Acc))) (c := c33) (by kernel_rfl) hc33) (RunR.puts 7 [(149, .pv (.bool (c33 || (x29.f_Amount.f_Cur != x2.f_Cur)))), (148, (bif !c33 then (.pv (.bool (x29.f_Amount.f_Cur != x2.f_Cur))) else (.tup []))), (147, (bif !c33 then (.pv (.int .i64 x2.f_Cur)) else (.tup []))), (146, (bif !c33 then (.ptr (.loc 3 0) 1) else (.tup []))), (145, (bif !c33 then (.pv (.int .i64 x29.f_Amount.f_Cur)) else (.tup []))), (144, (bif !c33 then (.ptr (.loc 19 0) 2) else (.tup []))), (143, (bif !c33 then (.ptr (.loc 19 0) 2) else (.tup [])))] (by cases c33 <;> kernel_rfl) (RunR.dyn (Step.name (f := eBool) (e := (c33 || (x29.f_Amount.f_Cur != x2.f_Cur))) (c := c34) (by kernel_rfl) hc34) (RunR.puts 2 [(152, (bif !c34 then (.pv (.int .i64 i20)) else (.tup []))), (151, (bif !c34 then (.pv (.slice (List.map T_api_Covered.pv x6.1))) else (.tup [])))] (by cases c34 <;> kernel_rfl) (RunR.dyn (Step.gdG (!c34) (by kernel_rfl) (by
                      cases c34
                      · exact .inr ⟨by kernel_rfl, by kernel_rfl, Step.idxT (f := T_api_Covered.pv) (l := x6.1) (n := i20) (e := x35) (k := .i64) (by kernel_rfl) (by kernel_rfl) hx35 (by kernel_rfl)⟩
                      · exact .inl ⟨by kernel_rfl, by kernel_rfl⟩)) (RunR.puts 4 [(157, .pv (.bool (c34 || (decide (x35.f_Much < 0))))), (156, (bif !c34 then (.pv (.bool (decide (x35.f_Much < 0)))) else (.tup []))), (155, (bif !c34 then (.pv (.int .i64 x35.f_Much)) else (.tup []))), (154, (bif !c34 then (.ipv (T_api_Covered.pv x35) 1) else (.tup [])))] (by cases c34 <;> kernel_rfl) (RunR.dyn (Step.name (f := eBool) (e := (c34 || (decide (x35.f_Much < 0)))) (c := c36) (by kernel_rfl) hc36) (RunR.puts 2 [(160, (bif !c36 then (.pv (.int .i64 i20)) else (.tup []))), (159, (bif !c36 then (.pv (.slice (List.map T_api_Covered.pv x6.1))) else (.tup [])))] (by cases c36 <;> kernel_rfl) (RunR.dyn (Step.gdG (!c36) (by kernel_rfl) (by
                      cases c36
                      · exact .inr ⟨by kernel_rfl, by kernel_rfl, Step.idxT (f := T_api_Covered.pv) (l := x6.1) (n := i20) (e := x37) (k := .i64) (by kernel_rfl) (by kernel_rfl) hx37 (by kernel_rfl)⟩
                      · exact .inl ⟨by kernel_rfl, by kernel_rfl⟩)) (RunR.puts 5 [(166, .pv (.bool (c36 || (decide (x37.f_Much > x30))))), (165, (bif !c36 then (.pv (.bool (decide (x37.f_Much > x30)))) else (.tup []))), (164, (bif !c36 then (.pv (.int .i64 x30)) else (.tup []))), (163, (bif !c36 then (.pv (.int .i64 x37.f_Much)) else (.tup []))), (162, (bif !c36 then (.ipv (T_api_Covered.pv x37) 1) else (.tup [])))] (by cases c36 <;> kernel_rfl) (RunR.dyn (Step.name (f := eBool) (e := (c36 || (decide (x37.f_Much > x30)))) (c := c38) (by kernel_rfl) hc38) (RunR.puts 2 [(169, (bif !c38 then (.pv (.bool (!full17))) else (.tup []))), (168, (bif !c38 then (.pv (.bool full17)) else (.tup [])))] (by cases c38 <;> kernel_rfl) (RunR.dyn (Step.gdG (!c38) (by kernel_rfl) (by
                      cases c38
                      · exact .inr ⟨by kernel_rfl, by kernel_rfl, Step.name (f := eBool) (e := !full17) (c := c39) (by kernel_rfl) hc39⟩
                      · exact .inl ⟨by kernel_rfl, by kernel_rfl⟩)) (RunR.puts 2 [(172, (bif ((!c38) && c39) then (.pv (.int .i64 i20)) else (.tup []))), (171, (bif ((!c38) && c39) then (.pv (.slice (List.map T_api_Covered.pv x6.1))) else (.tup [])))] (by cases c38 <;> cases c39 <;> kernel_rfl) (RunR.dyn (Step.gdG ((!c38) && c39) (by kernel_rfl) (by
                      cases c38
                      · cases c39
                        · exact .inl ⟨by kernel_rfl, by kernel_rfl⟩
                        · exact .inr ⟨by kernel_rfl, by kernel_rfl, Step.idxT (f := T_api_Covered.pv) (l := x6.1) (n := i20) (e := x40) (k := .i64) (by kernel_rfl) (by kernel_rfl) hx40 (by kernel_rfl)⟩
                      · cases c39
                        · exact .inl ⟨by kernel_rfl, by kernel_rfl⟩
                        · exact .inl ⟨by kernel_rfl, by kernel_rfl⟩)) (RunR.puts 5 [(178, .pv (.bool (c38 || (c39 && (x40.f_Much != 0))))), (177, (bif !c38 then (.pv (.bool (c39 && (x40.f_Much != 0)))) else (.tup []))), (176, (bif ((!c38) && c39) then (.pv (.bool (x40.f_Much != 0))) else (.tup []))), (175, (bif ((!c38) && c39) then (.pv (.int .i64 x40.f_Much)) else (.tup []))), (174, (bif ((!c38) && c39) then (.ipv (T_api_Covered.pv x40) 1) else (.tup [])))] (by cases c38 <;> cases c39 <;> kernel_rfl) (RunR.dyn (Step.name (f := eBool) (e := (c38 || (c39 && (x40.f_Much != 0)))) (c := c41) (by kernel_rfl) hc41) (RunR.puts 5 [(184, .pv (.bool (c41 || (decide (x29.f_Rank > rank18))))), (183, (bif !c41 then (.pv (.bool (decide (x29.f_Rank > rank18)))) else (.tup []))), (182, (bif !c41 then (.pv (.int .i64 rank18)) else (.tup []))), (181, (bif !c41 then (.pv (.int .i64 x29.f_Rank)) else (.tup []))), (180, (bif !c41 then (.ptr (.loc 19 0) 4) else (.tup [])))] (by cases c41 <;> kernel_rfl) (RunR.dyn (Step.name (f := eBool) (e := (c41 || (decide (x29.f_Rank > rank18)))) (c := c42) (by kernel_rfl) hc42) (RunR.puts 4 [(189, (bif !c42 then (.pv (.bool (x29.f_Rank == rank18))) else (.tup []))), (188, (bif !c42 then (.pv (.int .i64 rank18)) else (.tup []))), (187, (bif !c42 then (.pv (.int .i64 x29.f_Rank)) else (.tup []))), (186, (bif !c42 then (.ptr (.loc 19 0) 4) else (.tup [])))] (by cases c42 <;> kernel_rfl) (RunR.dyn (Step.gdG (!c42) (by kernel_rfl) (by
                      cases c42
                      · exact .inr ⟨by kernel_rfl, by kernel_rfl, Step.name (f := eBool) (e := (x29.f_Rank == rank18)) (c := c43) (by kernel_rfl) hc43⟩
                      · exact .inl ⟨by kernel_rfl, by kernel_rfl⟩)) (RunR.puts 6 [(196, .pv (.bool (c42 || (c43 && (decide (x29.f_ID ≤ id19)))))), (195, (bif !c42 then (.pv (.bool (c43 && (decide (x29.f_ID ≤ id19))))) else (.tup []))), (194, (bif ((!c42) && c43) then (.pv (.bool (decide (x29.f_ID ≤ id19)))) else (.tup []))), (193, (bif ((!c42) && c43) then (.pv (.int .i64 id19)) else (.tup []))), (192, (bif ((!c42) && c43) then (.pv (.int .i64 x29.f_ID)) else (.tup []))), (191, (bif ((!c42) && c43) then (.ptr (.loc 19 0) 0) else (.tup [])))] (by cases c42 <;> cases c43 <;> kernel_rfl) ((.nil _))))))))))))))))))))))))))))) ?_
                refine W.seqCond (t := (c42 || (c43 && (decide (x29.f_ID ≤ id19))))) (by kernel_rfl) h (fun hc h' => ?_) (fun hc h' => ?_)
                · replace h := h'
                  refine W.assoc ?_
                  refine W.seqOps (RunR.all (by kernel_rfl)) ?_
                  refine W.seqKeep rfl ?_
                  cases h
                  exact W.seqRet ((outw_out ret_ne (bout_o ret_ne ret_ne' (fun e => by subst e; exact (fin_ret (by kernel_rfl))))))
                · replace h := h'
                  refine W.seqSkip ?_
                  refine W.assoc ?_
                  replace h := bindS h
                  obtain ⟨x44, hx44, h⟩ := h
                  refine W.seqOps (RunR.stat 2 (by kernel_rfl) (RunR.puts 2 [(200, (bif full17 then (.pv (.int .i64 i20)) else (.tup []))), (199, (bif full17 then (.pv (.slice (List.map T_api_Covered.pv x6.1))) else (.tup [])))] (by cases full17 <;> kernel_rfl) (RunR.dyn (Step.gdG full17 (by kernel_rfl) (by
                        cases full17
                        · exact .inl ⟨by kernel_rfl, by kernel_rfl⟩
                        · exact .inr ⟨by kernel_rfl, by kernel_rfl, Step.idxT (f := T_api_Covered.pv) (l := x6.1) (n := i20) (e := x44) (k := .i64) (by kernel_rfl) (by kernel_rfl) hx44 (by kernel_rfl)⟩)) (RunR.puts 5 [(206, .pv (.bool (full17 && (x44.f_Much == x30)))), (205, (bif full17 then (.pv (.bool (x44.f_Much == x30))) else (.tup []))), (204, (bif full17 then (.pv (.int .i64 x30)) else (.tup []))), (203, (bif full17 then (.pv (.int .i64 x44.f_Much)) else (.tup []))), (202, (bif full17 then (.ipv (T_api_Covered.pv x44) 1) else (.tup [])))] (by cases full17 <;> kernel_rfl) (RunR.all (by kernel_rfl)))))) ?_
                  refine W.assoc ?_
                  refine W.seqOps (RunR.all (by kernel_rfl)) ?_
                  refine W.assoc ?_
                  refine W.seqOps (RunR.all (by kernel_rfl)) ?_
                  replace h := bindS h
                  obtain ⟨x45, hx45, h⟩ := h
                  refine W.seqOps (RunR.stat 3 (by kernel_rfl) (RunR.dyn (Step.idxT (f := T_api_Covered.pv) (l := x6.1) (n := i20) (e := x45) (k := .i64) (by kernel_rfl) (by kernel_rfl) hx45 (by kernel_rfl)) (RunR.all (by kernel_rfl)))) ?_
                  refine W.ops (RunR.all (by kernel_rfl)) ?_
                  cases h
                  exact (outw_in (by (show _ = _); kernel_rfl))
          · replace h := h'
            cases h
            exact W.seqExit ((outw_out exit_ne (bout_x (by (show _ = _); kernel_rfl))))
      · subst hp
        refine W.assoc ?_
        refine W.seqKeep hsj15 ?_
        refine W.seqOps (RunR.all (by kernel_rfl)) ?_
        replace h := bindS h
        obtain ⟨j47, hj47, h⟩ := h
        refine W.join (j := j47) (fun p σ => σ.tidy [] [(3, false), (5, false), (7, false), (11, false), (12, false)] [(.loc 3 0, false)] [] [] = ⟨[(3, .ptr (.loc 3 0) 0), (5, .pv (.slice (List.map T_api_Covered.pv x6.1))), (7, .pv (.int .i64 x7.1)), (11, .pv (.int .i64 sum46)), (12, .pv (.int .i64 p))], [(.loc 3 0, .box [.pv (.int .i64 x2.f_Acc), .pv (.int .i64 x2.f_Cur), .pv (.int .i32 x2.f_Now), .pv (.int .i64 x2.f_Rank), .pv (.int .i64 x2.f_Funds), .pv (.int .i64 x2.f_H.f_ID), .pv (.int .i64 x2.f_H.f_Acc), .pv (.int .i64 x2.f_H.f_Amount.f_Cur), .pv (.int .i64 x2.f_H.f_Amount.f_Minor), .pv (.int .i64 x2.f_H.f_Rank), .pv (.int .i32 x2.f_H.f_Made), .pv (.int .i32 x2.f_H.f_Until), .pv (.int .i64 x2.f_H.f_Taken), .pv (.bool x2.f_H.f_Done)])]⟩) ?_ (fun σj47 hsj47 => ?_)
        · refine W.blockLoop (fun q σ => ((σ.forget [0, 3, 5, 7, 11, 12, 21]).killAll []).tidy [] [(0, false), (3, false), (5, false), (7, false), (11, false), (12, false), (21, false)] [(.loc 3 0, false)] [] [] = ⟨[(0, .pv (.slice (List.map T_api_Hold.pv l1))), (3, .ptr (.loc 3 0) 0), (5, .pv (.slice (List.map T_api_Covered.pv x6.1))), (7, .pv (.int .i64 x7.1)), (11, .pv (.int .i64 sum46)), (12, .pv (.int .i64 q.1)), (21, .pv (.int .i64 q.2))], [(.loc 3 0, .box [.pv (.int .i64 x2.f_Acc), .pv (.int .i64 x2.f_Cur), .pv (.int .i32 x2.f_Now), .pv (.int .i64 x2.f_Rank), .pv (.int .i64 x2.f_Funds), .pv (.int .i64 x2.f_H.f_ID), .pv (.int .i64 x2.f_H.f_Acc), .pv (.int .i64 x2.f_H.f_Amount.f_Cur), .pv (.int .i64 x2.f_H.f_Amount.f_Minor), .pv (.int .i64 x2.f_H.f_Rank), .pv (.int .i32 x2.f_H.f_Made), .pv (.int .i32 x2.f_H.f_Until), .pv (.int .i64 x2.f_H.f_Taken), .pv (.bool x2.f_H.f_Done)])]⟩) hj47 ?_ ?_
          · show _ = _
            kernel_rfl
          · intro q σj47 oj47 hJj47 h
            obtain ⟨live48, k49⟩ := q
            refine W.keep hJj47 ?_
            refine W.assoc ?_
            refine W.seqOps (RunR.stat 2 (by kernel_rfl) (RunR.dyn (Step.lenT (f := T_api_Hold.pv) (l := l1) (by kernel_rfl)) (RunR.all (by kernel_rfl)))) ?_
            refine W.seqCond (t := decide (k49 < (l1.length : Int))) (by kernel_rfl) h (fun hc h' => ?_) (fun hc h' => ?_)
            · replace h := h'
              refine W.seqSkip ?_
              refine W.seqPass ?_
              refine W.assoc ?_
              replace h := bindS h
              obtain ⟨x50, hx50, h⟩ := h
              replace h := bindS h
              obtain ⟨x51, hx51, h⟩ := h
              replace h := bindS h
              obtain ⟨x52, hx52, h⟩ := h
              replace h := bindS h
              obtain ⟨c53, hc53, h⟩ := h
              replace h := bindS h
              obtain ⟨x54, hx54, h⟩ := h
              refine W.seqDraw (tab_cons (on := true) (fun _ => hold_Live_ok hx51) tab_nil) (Run.stat 2 (by kernel_rfl) (Run.dyn (Step.idxT (f := T_api_Hold.pv) (l := l1) (n := k49) (e := x50) (k := .i64) (by kernel_rfl) (by kernel_rfl) hx50 (by kernel_rfl)) (Run.stat 3 (by kernel_rfl) (Run.dyn (Step.call0 (g := 40) (caps := []) (v := .pv (.bool x51)) (by kernel_rfl) (by kernel_rfl) (by kernel_rfl) (tab_hit (by kernel_rfl)) (by kernel_rfl)) (Run.stat 1 (by kernel_rfl) (Run.puts 2 [(233, (bif x51 then (.pv (.int .i64 k49)) else (.tup []))), (232, (bif x51 then (.pv (.slice (List.map T_api_Hold.pv l1))) else (.tup [])))] (by cases x51 <;> kernel_rfl) (Run.dyn (Step.gdG x51 (by kernel_rfl) (by
                    cases x51
                    · exact .inl ⟨by kernel_rfl, by kernel_rfl⟩
                    · exact .inr ⟨by kernel_rfl, by kernel_rfl, Step.idxT (f := T_api_Hold.pv) (l := l1) (n := k49) (e := x52) (k := .i64) (by kernel_rfl) (by kernel_rfl) hx52 (by kernel_rfl)⟩)) (Run.puts 6 [(240, .pv (.bool (x51 && (x52.f_Acc == x2.f_Acc)))), (239, (bif x51 then (.pv (.bool (x52.f_Acc == x2.f_Acc))) else (.tup []))), (238, (bif x51 then (.pv (.int .i64 x2.f_Acc)) else (.tup []))), (237, (bif x51 then (.ptr (.loc 3 0) 0) else (.tup []))), (236, (bif x51 then (.pv (.int .i64 x52.f_Acc)) else (.tup []))), (235, (bif x51 then (.ipv (T_api_Hold.pv x52) 1) else (.tup [])))] (by cases x51 <;> kernel_rfl) (Run.dyn (Step.name (f := eBool) (e := (x51 && (x52.f_Acc == x2.f_Acc))) (c := c53) (by kernel_rfl) hc53) (Run.puts 2 [(243, (bif c53 then (.pv (.int .i64 k49)) else (.tup []))), (242, (bif c53 then (.pv (.slice (List.map T_api_Hold.pv l1))) else (.tup [])))] (by cases c53 <;> kernel_rfl) (Run.dyn (Step.gdG c53 (by kernel_rfl) (by
                    cases c53
                    · exact .inl ⟨by kernel_rfl, by kernel_rfl⟩
                    · exact .inr ⟨by kernel_rfl, by kernel_rfl, Step.idxT (f := T_api_Hold.pv) (l := l1) (n := k49) (e := x54) (k := .i64) (by kernel_rfl) (by kernel_rfl) hx54 (by kernel_rfl)⟩)) (Run.puts 7 [(251, .pv (.bool (c53 && (x54.f_Amount.f_Cur == x2.f_Cur)))), (250, (bif c53 then (.pv (.bool (x54.f_Amount.f_Cur == x2.f_Cur))) else (.tup []))), (249, (bif c53 then (.pv (.int .i64 x2.f_Cur)) else (.tup []))), (248, (bif c53 then (.ptr (.loc 3 0) 1) else (.tup []))), (247, (bif c53 then (.pv (.int .i64 x54.f_Amount.f_Cur)) else (.tup []))), (246, (bif c53 then (.ipv (T_api_Hold.pv x54) 2) else (.tup []))), (245, (bif c53 then (.ipv (T_api_Hold.pv x54) 2) else (.tup [])))] (by cases c53 <;> kernel_rfl) ((Run.nil)))))))))))))) ?_
              replace h := bindS h
              obtain ⟨j55, hj55, h⟩ := h
              refine W.join (j := j55) (fun p σ => σ.tidy [] [(0, false), (3, false), (5, false), (7, false), (11, false), (12, false), (21, false)] [(.loc 3 0, false)] [] [] = ⟨[(0, .pv (.slice (List.map T_api_Hold.pv l1))), (3, .ptr (.loc 3 0) 0), (5, .pv (.slice (List.map T_api_Covered.pv x6.1))), (7, .pv (.int .i64 x7.1)), (11, .pv (.int .i64 sum46)), (12, .pv (.int .i64 p)), (21, .pv (.int .i64 k49))], [(.loc 3 0, .box [.pv (.int .i64 x2.f_Acc), .pv (.int .i64 x2.f_Cur), .pv (.int .i32 x2.f_Now), .pv (.int .i64 x2.f_Rank), .pv (.int .i64 x2.f_Funds), .pv (.int .i64 x2.f_H.f_ID), .pv (.int .i64 x2.f_H.f_Acc), .pv (.int .i64 x2.f_H.f_Amount.f_Cur), .pv (.int .i64 x2.f_H.f_Amount.f_Minor), .pv (.int .i64 x2.f_H.f_Rank), .pv (.int .i32 x2.f_H.f_Made), .pv (.int .i32 x2.f_H.f_Until), .pv (.int .i64 x2.f_H.f_Taken), .pv (.bool x2.f_H.f_Done)])]⟩) ?_ (fun σj55 hsj55 => ?_)
              · replace h := hj55
                refine W.condI (t := (c53 && (x54.f_Amount.f_Cur == x2.f_Cur))) (by kernel_rfl) h (fun hc h' => ?_) (fun hc h' => ?_)
                · replace h := h'
                  refine W.ops (RunR.all (by kernel_rfl)) ?_
                  cases h
                  exact (normw (by (show _ = _); kernel_rfl))
                · replace h := h'
                  cases h
                  exact W.skip ((normw (by (show _ = _); kernel_rfl)))
              · refine W.keep hsj55 ?_
                refine W.ops (RunR.all (by kernel_rfl)) ?_
                cases h
                exact (outw_in (by (show _ = _); kernel_rfl))
            · replace h := h'
              cases h
              exact W.seqExit ((outw_out exit_ne (bnorm_x (by (show _ = _); kernel_rfl))))
        · refine W.seqKeep hsj47 ?_
          replace h := bindS h
          obtain ⟨x58, hx58, h⟩ := h
          replace h := bindS h
          obtain ⟨c59, hc59, h⟩ := h
          refine W.seqOps (RunR.cons (tab_cons (on := true) (fun _ => cashbooklaw25_alive_ok hx58) tab_nil) (Step.call0 (g := 35) (caps := []) (v := .pv (.bool x58)) (by kernel_rfl) (by kernel_rfl) (by kernel_rfl) (tab_hit (by kernel_rfl)) (by kernel_rfl)) (RunR.stat 1 (by kernel_rfl) (RunR.puts 2 [(257, (bif x58 then (.pv (.slice (List.map T_api_Covered.pv x6.1))) else (.tup []))), (256, (bif x58 then (.pv (.int .i64 j47)) else (.tup [])))] (by cases x58 <;> kernel_rfl) (RunR.dyn (Step.gdG x58 (by kernel_rfl) (by
                cases x58
                · exact .inl ⟨by kernel_rfl, by kernel_rfl⟩
                · exact .inr ⟨by kernel_rfl, by kernel_rfl, Step.lenT (f := T_api_Covered.pv) (l := x6.1) (by kernel_rfl)⟩)) (RunR.puts 2 [(260, .pv (.bool (x58 && (j47 == (x6.1.length : Int))))), (259, (bif x58 then (.pv (.bool (j47 == (x6.1.length : Int)))) else (.tup [])))] (by cases x58 <;> kernel_rfl) (RunR.dyn (Step.name (f := eBool) (e := (x58 && (j47 == (x6.1.length : Int)))) (c := c59) (by kernel_rfl) hc59) (RunR.puts 8 [(269, .pv (.bool (c59 && (sum46 == (if x7.1 < (if 0 > x2.f_Funds then 0 else x2.f_Funds) then x7.1 else (if 0 > x2.f_Funds then 0 else x2.f_Funds)))))), (268, (bif c59 then (.pv (.bool (sum46 == (if x7.1 < (if 0 > x2.f_Funds then 0 else x2.f_Funds) then x7.1 else (if 0 > x2.f_Funds then 0 else x2.f_Funds))))) else (.tup []))), (267, (bif c59 then (.pv (.int .i64 (if x7.1 < (if 0 > x2.f_Funds then 0 else x2.f_Funds) then x7.1 else (if 0 > x2.f_Funds then 0 else x2.f_Funds)))) else (.tup []))), (266, (bif c59 then (.pv (.int .i64 x7.1)) else (.tup []))), (265, (bif c59 then (.pv (.int .i64 (if 0 > x2.f_Funds then 0 else x2.f_Funds))) else (.tup []))), (264, (bif c59 then (.pv (.int .i64 x2.f_Funds)) else (.tup []))), (263, (bif c59 then (.ptr (.loc 3 0) 4) else (.tup []))), (262, (bif c59 then (.pv (.int .i64 sum46)) else (.tup [])))] (by cases c59 <;> kernel_rfl) (RunR.all (by kernel_rfl))))))))) ?_
          refine W.keep rfl ?_
          cases h
          exact W.ret ((fin_ret (by kernel_rfl)))
      · subst hp
        exact Option.some.inj h
end Go.Av.G
