import Derived.Test.YtgmiodjnojkdkaaGreatDoorC14
set_option linter.all false
section
set_option linter.unusedVariables false
set_option linter.unusedSimpArgs false
set_option maxRecDepth 100000
set_option maxHeartbeats 8000000
namespace Go.Av.G
open Go Go.Av Go.Proofs
def Abh:List TOp:=[oo 0 (.mov (.cst (.bool false)))]
def Abi:List TOp:=[oo 29 (.call 0 0 (.cst (.fn 9)) [(.cst (.str [97,45,98,32,45,32,99,42,45,50,37]))] [] []),oo 28 (.mov (.tmp 29)),oo 30 (.ext 0 (.tmp 28)),oo 31 (.ext 1 (.tmp 28)),oo 32 (.ext 2 (.tmp 28)),oo 33 (.ext 3 (.tmp 28)),oo 1 (.mov (.tmp 30)),oo 2 (.mov (.tmp 31)),oo 3 (.mov (.tmp 32)),oo 4 (.mov (.tmp 33))]
def Abj:List TOp:=[oo 35 (.mov (.tmp 1)),oo 36 (.call 0 0 (.cst (.fn 17)) [(.tmp 35)] [] []),oo 34 (.mov (.tmp 36)),oo 37 (.ext 0 (.tmp 34)),oo 38 (.ext 1 (.tmp 34)),oo 5 (.mov (.tmp 37)),oo 6 (.mov (.tmp 38))]
def Abk:List TOp:=[oo 40 (.call 0 0 (.cst (.fn 9)) [(.cst (.str [40,97,32,60,32,49,41,32,61,32,40,110,111,116,32,98,41]))] [] []),oo 39 (.mov (.tmp 40)),oo 41 (.ext 0 (.tmp 39)),oo 42 (.ext 1 (.tmp 39)),oo 43 (.ext 2 (.tmp 39)),oo 44 (.ext 3 (.tmp 39)),oo 7 (.mov (.tmp 41)),oo 8 (.mov (.tmp 42)),oo 9 (.mov (.tmp 43)),oo 10 (.mov (.tmp 44))]
def Abl:List TOp:=[oo 46 (.mov (.tmp 7)),oo 47 (.call 0 0 (.cst (.fn 17)) [(.tmp 46)] [] []),oo 45 (.mov (.tmp 47)),oo 48 (.ext 0 (.tmp 45)),oo 49 (.ext 1 (.tmp 45)),oo 11 (.mov (.tmp 48)),oo 12 (.mov (.tmp 49))]
def Abm:List TOp:=[oo 51 (.call 0 0 (.cst (.fn 9)) [(.cst (.str [97,10,32,60,32,98,32,60,32,99]))] [] []),oo 50 (.mov (.tmp 51)),oo 52 (.ext 0 (.tmp 50)),oo 53 (.ext 1 (.tmp 50)),oo 54 (.ext 2 (.tmp 50)),oo 55 (.ext 3 (.tmp 50)),oo 13 (.mov (.tmp 52)),oo 14 (.mov (.tmp 53)),oo 15 (.mov (.tmp 54)),oo 16 (.mov (.tmp 55))]
def Abn:List TOp:=[oo 57 (.call 0 0 (.cst (.fn 9)) [(.cst (.str [40,97]))] [] []),oo 56 (.mov (.tmp 57)),oo 58 (.ext 0 (.tmp 56)),oo 59 (.ext 1 (.tmp 56)),oo 60 (.ext 2 (.tmp 56)),oo 61 (.ext 3 (.tmp 56)),oo 17 (.mov (.tmp 58)),oo 18 (.mov (.tmp 59)),oo 19 (.mov (.tmp 60)),oo 20 (.mov (.tmp 61))]
def Abo:List TOp:=[oo 63 (.call 0 0 (.cst (.fn 12)) [(.cst (.str [112,114,111,100,117,99,116,32,115,97,118,101,32,101,117,114,32,123,32,98,97,115,105,115,32,97,99,116,51,54,53,32,59,32,112,101,114,105,111,100,32,51,32,59,32,116,105,101,114,115,32,123,32,48,32,58,32,49,46,50,53,32,37,32,59,32,53,48,48,32,58,32,50,32,37,32,59,32,125,32,102,101,101,32,105,102,32,98,97,108,97,110,99,101,32,60,32,49,48,32,116,104,101,110,32,49,32,101,108,115,101,32,48,32,59,32,109,105,110,105,109,117,109,32,53,32,59,32,111,118,101,114,100,114,97,102,116,32,48,32,59,32,110,111,116,105,99,101,32,51,48,32,59,32,125]))] [] []),oo 62 (.mov (.tmp 63)),oo 64 (.ext 0 (.tmp 62)),oo 65 (.ext 1 (.tmp 62)),oo 66 (.ext 2 (.tmp 62)),oo 67 (.ext 3 (.tmp 62)),oo 21 (.mov (.tmp 64)),oo 22 (.mov (.tmp 65)),oo 23 (.mov (.tmp 66)),oo 24 (.mov (.tmp 67))]
def Abp:List TOp:=[oo 69 (.mov (.tmp 21)),oo 70 (.call 0 0 (.cst (.fn 19)) [(.tmp 69)] [] []),oo 68 (.mov (.tmp 70)),oo 71 (.ext 0 (.tmp 68)),oo 72 (.ext 1 (.tmp 68)),oo 25 (.mov (.tmp 71)),oo 26 (.mov (.tmp 72))]
def Abq:List TOp:=[oo 73 (.mov (.tmp 1)),ot 74 (.st 4) (.build [.pv (.int .i64 0),.pv (.str [])] [(0,1,(.cst (.int .i64 4)))]),ot 75 (.st 4) (.build [.pv (.int .i64 0),.pv (.str [])] [(0,1,(.cst (.int .i64 4)))]),ot 76 (.st 4) (.build [.pv (.int .i64 0),.pv (.str [])] [(0,1,(.cst (.int .i64 1))),(1,1,(.cst (.str [97])))]),ot 77 (.st 4) (.build [.pv (.int .i64 0),.pv (.str [])] [(0,1,(.cst (.int .i64 1))),(1,1,(.cst (.str [98])))]),ot 78 (.st 4) (.build [.pv (.int .i64 0),.pv (.str [])] [(0,1,(.cst (.int .i64 5)))]),ot 79 (.st 4) (.build [.pv (.int .i64 0),.pv (.str [])] [(0,1,(.cst (.int .i64 1))),(1,1,(.cst (.str [99])))]),ot 80 (.st 4) (.build [.pv (.int .i64 0),.pv (.str [])] [(0,1,(.cst (.int .i64 2)))]),ot 81 (.st 4) (.build [.pv (.int .i64 0),.pv (.str [])] [(1,1,(.cst (.str [50,37])))]),ot 82 (.st 4) (.lit false 2 [(.tmp 74),(.tmp 75),(.tmp 76),(.tmp 77),(.tmp 78),(.tmp 79),(.tmp 80),(.tmp 81)]),oo 83 (.call 0 0 (.cst (.fn 11)) [(.tmp 73),(.tmp 82)] [] []),oo 27 (.mov (.tmp 83))]
def Wn:List TOp:=[oo 84 (.mov (.tmp 21)),oo 85 (.len false (.tmp 84)),oo 86 (.bin false .neq (.tmp 85) (.cst (.int .i64 1)))]
def Wo:List TOp:=[oo 0 (.mov (.cst (.bool false)))]
def Iw:Kp:=⟨[],[(0,false)],[],[],[]⟩
def Wp:List TOp:=[oo 87 (.mov (.tmp 4)),oo 88 (.bin false .eql (.tmp 87) (.cst (.int .i64 0))),oo 89 (.mov (.tmp 88)),og 90 89 true .bool (.mov (.tmp 27)),oo 91 (.pick (.tmp 89) (.tmp 90) (.cst (.bool false))),oo 92 (.mov (.tmp 91)),og 93 92 true .bool (.mov (.tmp 6)),og 94 92 true .bool (.bin false .eql (.tmp 93) (.cst (.int .i64 0))),oo 95 (.pick (.tmp 92) (.tmp 94) (.cst (.bool false))),oo 96 (.mov (.tmp 95)),og 97 96 true .bool (.mov (.tmp 5)),og 98 96 true .bool (.bin false .eql (.tmp 97) (.cst (.str [97,32,45,32,98,32,45,32,99,32,42,32,45,32,50,32,37]))),oo 99 (.pick (.tmp 96) (.tmp 98) (.cst (.bool false))),oo 100 (.mov (.tmp 99)),og 101 100 true .bool (.mov (.tmp 1)),og 102 100 true .bool (.call 0 0 (.cst (.fn 21)) [(.tmp 101)] [] []),og 103 100 true .bool (.bin false .eql (.tmp 102) (.cst (.int .i64 4))),oo 104 (.pick (.tmp 100) (.tmp 103) (.cst (.bool false))),oo 105 (.mov (.tmp 104)),og 106 105 true .bool (.mov (.tmp 10)),og 107 105 true .bool (.bin false .eql (.tmp 106) (.cst (.int .i64 0))),oo 108 (.pick (.tmp 105) (.tmp 107) (.cst (.bool false))),oo 109 (.mov (.tmp 108)),og 110 109 true .bool (.mov (.tmp 12)),og 111 109 true .bool (.bin false .eql (.tmp 110) (.cst (.int .i64 0))),oo 112 (.pick (.tmp 109) (.tmp 111) (.cst (.bool false))),oo 113 (.mov (.tmp 112)),og 114 113 true .bool (.mov (.tmp 11)),og 115 113 true .bool (.bin false .eql (.tmp 114) (.cst (.str [40,32,97,32,60,32,49,32,41,32,61,32,40,32,110,111,116,32,98,32,41]))),oo 116 (.pick (.tmp 113) (.tmp 115) (.cst (.bool false))),oo 117 (.mov (.tmp 116)),og 118 117 true .bool (.mov (.tmp 16)),og 119 117 true .bool (.bin false .eql (.tmp 118) (.cst (.int .i64 14))),oo 120 (.pick (.tmp 117) (.tmp 119) (.cst (.bool false))),oo 121 (.mov (.tmp 120)),og 122 121 true .bool (.mov (.tmp 14)),og 123 121 true .bool (.bin false .eql (.tmp 122) (.cst (.int .i64 2))),oo 124 (.pick (.tmp 121) (.tmp 123) (.cst (.bool false))),oo 125 (.mov (.tmp 124)),og 126 125 true .bool (.mov (.tmp 15)),og 127 125 true .bool (.bin false .eql (.tmp 126) (.cst (.int .i64 6))),oo 128 (.pick (.tmp 125) (.tmp 127) (.cst (.bool false))),oo 129 (.mov (.tmp 128)),og 130 129 true .bool (.mov (.tmp 20)),og 131 129 true .bool (.bin false .eql (.tmp 130) (.cst (.int .i64 14))),oo 132 (.pick (.tmp 129) (.tmp 131) (.cst (.bool false))),oo 133 (.mov (.tmp 132)),og 134 133 true .bool (.mov (.tmp 18)),og 135 133 true .bool (.bin false .eql (.tmp 134) (.cst (.int .i64 1))),oo 136 (.pick (.tmp 133) (.tmp 135) (.cst (.bool false))),oo 137 (.mov (.tmp 136)),og 138 137 true .bool (.mov (.tmp 19)),og 139 137 true .bool (.bin false .eql (.tmp 138) (.cst (.int .i64 3))),oo 140 (.pick (.tmp 137) (.tmp 139) (.cst (.bool false))),oo 141 (.mov (.tmp 140)),og 142 141 true .bool (.mov (.tmp 24)),og 143 141 true .bool (.bin false .eql (.tmp 142) (.cst (.int .i64 0))),oo 144 (.pick (.tmp 141) (.tmp 143) (.cst (.bool false))),oo 145 (.mov (.tmp 144)),og 146 145 true .bool (.mov (.tmp 26)),og 147 145 true .bool (.bin false .eql (.tmp 146) (.cst (.int .i64 0))),oo 148 (.pick (.tmp 145) (.tmp 147) (.cst (.bool false))),oo 149 (.mov (.tmp 148)),og 150 149 true .bool (.mov (.tmp 25)),og 151 149 true .bool (.bin false .eql (.tmp 150) (.cst (.str [112,114,111,100,117,99,116,32,115,97,118,101,32,101,117,114,32,123,32,98,97,115,105,115,32,97,99,116,51,54,53,32,59,32,112,101,114,105,111,100,32,51,32,59,32,116,105,101,114,115,32,123,32,48,32,58,32,49,46,50,53,32,37,32,59,32,53,48,48,32,58,32,50,32,37,32,59,32,125,32,102,101,101,32,105,102,32,98,97,108,97,110,99,101,32,60,32,49,48,32,116,104,101,110,32,49,32,101,108,115,101,32,48,32,59,32,109,105,110,105,109,117,109,32,53,32,59,32,111,118,101,114,100,114,97,102,116,32,48,32,59,32,110,111,116,105,99,101,32,51,48,32,59,32,125]))),oo 152 (.pick (.tmp 149) (.tmp 151) (.cst (.bool false))),oo 153 (.mov (.tmp 152)),og 154 153 true .bool (.mov (.tmp 21)),og 155 153 true .bool (.idx 9 (.tmp 154) (.cst (.int .i64 0))),og 156 153 true .bool (.fld 4 (.tmp 155)),og 157 153 true .bool (.load false 1 (.tmp 156)),og 158 153 true .bool (.len false (.tmp 157)),og 159 153 true .bool (.bin false .eql (.tmp 158) (.cst (.int .i64 2))),oo 160 (.pick (.tmp 153) (.tmp 159) (.cst (.bool false))),oo 161 (.mov (.tmp 160)),og 162 161 true .bool (.mov (.tmp 21)),og 163 161 true .bool (.idx 9 (.tmp 162) (.cst (.int .i64 0))),og 164 161 true .bool (.fld 4 (.tmp 163)),og 165 161 true .bool (.load false 1 (.tmp 164)),og 166 161 true .bool (.idx 2 (.tmp 165) (.cst (.int .i64 1))),og 167 161 true .bool (.fld 1 (.tmp 166)),og 168 161 true .bool (.load false 1 (.tmp 167)),og 169 161 true .bool (.bin false .eql (.tmp 168) (.cst (.str [50]))),oo 170 (.pick (.tmp 161) (.tmp 169) (.cst (.bool false))),oo 171 (.mov (.tmp 170)),og 172 171 true .bool (.mov (.tmp 21)),og 173 171 true .bool (.idx 9 (.tmp 172) (.cst (.int .i64 0))),og 174 171 true .bool (.fld 8 (.tmp 173)),og 175 171 true .bool (.load false 1 (.tmp 174)),og 176 171 true .bool (.bin false .eql (.tmp 175) (.cst (.str [51,48]))),oo 177 (.pick (.tmp 171) (.tmp 176) (.cst (.bool false))),oo 178 (.mov (.tmp 177)),og 179 178 true .bool (.mov (.tmp 21)),og 180 178 true .bool (.idx 9 (.tmp 179) (.cst (.int .i64 0))),og 181 178 true (.st 7) (.load true 9 (.tmp 180)),og 182 178 true .bool (.mov (.tmp 21)),og 183 178 true .bool (.idx 9 (.tmp 182) (.cst (.int .i64 0))),og 184 178 true (.st 7) (.load true 9 (.tmp 183)),og 185 178 true .bool (.call 0 0 (.cst (.fn 24)) [(.tmp 181),(.tmp 184)] [] []),oo 186 (.pick (.tmp 178) (.tmp 185) (.cst (.bool false))),oo 187 (.mov (.tmp 186)),og 188 187 true (.st 4) (.build [.pv (.int .i64 0),.pv (.str [])] [(0,1,(.cst (.int .i64 2)))]),og 189 187 true (.st 4) (.lit false 2 [(.tmp 188)]),og 190 187 true .bool (.call 0 0 (.cst (.fn 23)) [(.tmp 189)] [] []),og 191 187 true .bool (.un .not (.tmp 190)),oo 192 (.pick (.tmp 187) (.tmp 191) (.cst (.bool false))),oo 193 (.mov (.tmp 192)),og 194 193 true .bool (.mov (.tmp 1)),og 195 193 true .bool (.call 0 0 (.cst (.fn 23)) [(.tmp 194)] [] []),oo 196 (.pick (.tmp 193) (.tmp 195) (.cst (.bool false))),oo 0 (.mov (.tmp 196))]
def Ajs:TFd:=⟨0,[(.tmp 0,.bool)],[],(.seq (.ops Abh) (.seq (.ops Abi) (.seq (.ops Abj) (.seq (.ops Abk) (.seq (.ops Abl) (.seq (.ops Abm) (.seq (.ops Abn) (.seq (.ops Abo) (.seq (.ops Abp) (.seq (.ops Abq) (.seq (.seq (.ops Wn) (.cond (.tmp 86) (.free (.seq (.ops Wo) (.keep Iw .ret))) .skip)) (.seq (.draw [] Wp) (.keep Iw .ret)))))))))))))⟩
noncomputable def Kz:Ent:=⟨[],[],[],⟨(.ty .bool),[],[],[.bool],[],[]⟩,none,fun p=>Ct⟩
theorem Aau:Kz.ok Tryz.prog 8:=Ar hm Tryz.func8 (fd:=Ajs) (by kernel_rfl) (Ah (l:=[(9,Abc),(17,Aoh),(12,Aut),(19,Wj),(11,Gq),(21,Tq),(24,Arn),(23,Gn)]) (y:=[]) ⟨Aoi,Ayk,A7j,Arm,Jb,Ajl,A14,Hb,trivial⟩ trivial) (by kernel_rfl) (fun p=>by kernel_rfl)
def Ab6:List TOp:=[oo 2 (.mov (.cst (.int .i64 0)))]
def Ab7:List TOp:=[oo 3 (.mov (.cst (.int .i64 0)))]
def Ab8:List TOp:=[oo 4 (.mov (.tmp 3)),oo 5 (.mov (.tmp 0)),oo 6 (.len true (.tmp 5)),oo 7 (.bin false .lss (.tmp 4) (.tmp 6))]
def Ab9:List TOp:=[oo 8 (.mov (.tmp 0)),oo 9 (.mov (.tmp 3)),oo 10 (.sidx (.tmp 8) (.tmp 9)),oo 11 (.bin false .eql (.tmp 10) (.cst (.int .u8 35)))]
def Aca:List TOp:=[oo 12 (.mov (.tmp 3)),oo 13 (.mov (.tmp 0)),oo 14 (.len true (.tmp 13)),oo 15 (.bin false .lss (.tmp 12) (.tmp 14)),oo 16 (.mov (.tmp 15)),og 17 16 true .bool (.mov (.tmp 0)),og 18 16 true .bool (.mov (.tmp 3)),og 19 16 true .bool (.sidx (.tmp 17) (.tmp 18)),og 20 16 true .bool (.bin false .neq (.tmp 19) (.cst (.int .u8 10))),oo 21 (.pick (.tmp 16) (.tmp 20) (.cst (.bool false)))]
def Acb:List TOp:=[oo 22 (.mov (.tmp 3)),oo 23 (.bin false .add (.tmp 22) (.cst (.int .i64 1))),oo 3 (.mov (.tmp 23))]
def Ab5:DC:=(.seq (.seq (.ops Aca) (.cond (.tmp 21) .skip (.exit 2))) (.pass 3 (.ops Acb)))
def Jv:Kp:=⟨[],[(0,false),(3,false)],[],[],[]⟩
def Jw:Sig:=⟨[(0,none),(3,some (.ty (.int .i64)))],[],[(.int .i64)],[],[]⟩
def Acc:List TOp:=[oo 24 (.mov (.tmp 0)),oo 25 (.mov (.tmp 3)),oo 26 (.sidx (.tmp 24) (.tmp 25)),oo 27 (.bin false .eql (.tmp 26) (.cst (.int .u8 32))),oo 28 (.mov (.tmp 27)),og 29 28 false .bool (.mov (.tmp 0)),og 30 28 false .bool (.mov (.tmp 3)),og 31 28 false .bool (.sidx (.tmp 29) (.tmp 30)),og 32 28 false .bool (.bin false .eql (.tmp 31) (.cst (.int .u8 9))),oo 33 (.pick (.tmp 28) (.cst (.bool true)) (.tmp 32)),oo 34 (.mov (.tmp 33)),og 35 34 false .bool (.mov (.tmp 0)),og 36 34 false .bool (.mov (.tmp 3)),og 37 34 false .bool (.sidx (.tmp 35) (.tmp 36)),og 38 34 false .bool (.bin false .eql (.tmp 37) (.cst (.int .u8 10))),oo 39 (.pick (.tmp 34) (.cst (.bool true)) (.tmp 38))]
def W0:List TOp:=[oo 40 (.mov (.tmp 3)),oo 41 (.bin false .add (.tmp 40) (.cst (.int .i64 1))),oo 3 (.mov (.tmp 41))]
def W1:List TOp:=[oo 42 (.mov (.tmp 3)),oo 2 (.mov (.tmp 42))]
def Ix:Kp:=⟨[],[(2,false)],[],[],[]⟩
def Wz:DC:=(.seq (.seq (.ops Ab8) (.cond (.tmp 7) .skip (.exit 0))) (.pass 1 (.seq (.ops Ab9) (.cond (.tmp 11) (.block 2 (.loop [0,3] [] Jv Jw Ab5)) (.seq (.ops Acc) (.cond (.tmp 39) (.ops W0) (.free (.seq (.ops W1) (.keep Ix .ret)))))))))
def Wy:Kp:=⟨[],[(3,false)],[],[],[]⟩
def W4:Sig:=⟨[(3,some (.ty (.int .i64)))],[],[(.int .i64)],[],[]⟩
def W3:List TOp:=[oo 43 (.mov (.tmp 3)),oo 2 (.mov (.tmp 43))]
def Aj4:TFd:=⟨1,[(.tmp 2,.bool)],[],(.seq (.ops Ab6) (.seq (.ops Ab7) (.seq (.joinO Wy W4 (.block 0 (.loop [0,3] [] Jv Jw Wz))) (.seq (.ops W3) (.keep Ix .ret)))))⟩
noncomputable def K0:Ent:=⟨[.ty .str],[],[.str],⟨(.ty (.int .i64)),[],[],[(.int .i64)],[],[]⟩,none,fun p=>Cu p⟩
theorem Aav:K0.ok Tryz.prog 50:=Ar hm Tryz.func50 (fd:=Aj4) (by kernel_rfl) (Ah (l:=[]) (y:=[]) trivial trivial) (by kernel_rfl) (fun p=>by kernel_rfl)
def Xg:List TOp:=[oo 2 (.mov (.cst (.bool false)))]
def Xh:List TOp:=[oo 3 (.mov (.tmp 0)),oo 4 (.bin false .geq (.tmp 3) (.cst (.int .u8 97))),oo 5 (.mov (.tmp 4)),og 6 5 true .bool (.mov (.tmp 0)),og 7 5 true .bool (.bin false .leq (.tmp 6) (.cst (.int .u8 122))),oo 8 (.pick (.tmp 5) (.tmp 7) (.cst (.bool false))),oo 2 (.mov (.tmp 8))]
def Xf:Kp:=⟨[],[(2,false)],[],[],[]⟩
def Af7:TFd:=⟨1,[(.tmp 2,.bool)],[],(.seq (.ops Xg) (.seq (.ops Xh) (.keep Xf .ret)))⟩
def F9:Ent:=⟨[.ty (.int .u8)],[],[(.int .u8)],⟨(.ty .bool),[],[],[.bool],[],[]⟩,none,fun p=>Da p⟩
theorem Im:F9.ok Tryz.prog 82:=Ar hm Tryz.func82 (fd:=Af7) (by kernel_rfl) (Ah (l:=[]) (y:=[]) trivial trivial) (by kernel_rfl) (fun p=>by kernel_rfl)
def Ace:List TOp:=[oo 2 (.mov (.cst (.bool false)))]
def Acf:List TOp:=[oo 3 (.mov (.tmp 0)),oo 4 (.bin false .geq (.tmp 3) (.cst (.int .u8 48))),oo 5 (.mov (.tmp 4)),og 6 5 true .bool (.mov (.tmp 0)),og 7 5 true .bool (.bin false .leq (.tmp 6) (.cst (.int .u8 57))),oo 8 (.pick (.tmp 5) (.tmp 7) (.cst (.bool false))),oo 2 (.mov (.tmp 8))]
def Acd:Kp:=⟨[],[(2,false)],[],[],[]⟩
def Aj5:TFd:=⟨1,[(.tmp 2,.bool)],[],(.seq (.ops Ace) (.seq (.ops Acf) (.keep Acd .ret)))⟩
def C0:Ent:=⟨[.ty (.int .u8)],[],[(.int .u8)],⟨(.ty .bool),[],[],[.bool],[],[]⟩,none,fun p=>Bx p⟩
theorem Dw:C0.ok Tryz.prog 84:=Ar hm Tryz.func84 (fd:=Aj5) (by kernel_rfl) (Ah (l:=[]) (y:=[]) trivial trivial) (by kernel_rfl) (fun p=>by kernel_rfl)
def Agu:List TOp:=[oo 2 (.alloc [.pv (.int .i64 0),.pv (.int .i64 0),.pv (.int .i64 0)])]
def Agv:List TOp:=[oo 3 (.mov (.cst (.int .i64 0)))]
def Agw:List TOp:=[oo 4 (.mov (.tmp 3)),oo 5 (.mov (.tmp 0)),oo 6 (.len true (.tmp 5)),oo 7 (.bin false .lss (.tmp 4) (.tmp 6)),oo 8 (.mov (.tmp 7)),og 9 8 true .bool (.mov (.tmp 0)),og 10 8 true .bool (.mov (.tmp 3)),og 11 8 true .bool (.sidx (.tmp 9) (.tmp 10)),og 12 8 true .bool (.call 0 0 (.cst (.fn 82)) [(.tmp 11)] [] []),og 13 8 true .bool (.mov (.tmp 12)),og 14 13 false .bool (.mov (.tmp 0)),og 15 13 false .bool (.mov (.tmp 3)),og 16 13 false .bool (.sidx (.tmp 14) (.tmp 15)),og 17 13 false .bool (.call 0 0 (.cst (.fn 84)) [(.tmp 16)] [] []),og 18 8 true .bool (.pick (.tmp 13) (.cst (.bool true)) (.tmp 17)),og 19 8 true .bool (.mov (.tmp 18)),og 20 19 false .bool (.mov (.tmp 0)),og 21 19 false .bool (.mov (.tmp 3)),og 22 19 false .bool (.sidx (.tmp 20) (.tmp 21)),og 23 19 false .bool (.bin false .eql (.tmp 22) (.cst (.int .u8 95))),og 24 8 true .bool (.pick (.tmp 19) (.cst (.bool true)) (.tmp 23)),oo 25 (.pick (.tmp 8) (.tmp 24) (.cst (.bool false)))]
def Agx:List TOp:=[oo 26 (.mov (.tmp 3)),oo 27 (.bin false .add (.tmp 26) (.cst (.int .i64 1))),oo 3 (.mov (.tmp 27))]
def Agt:DC:=(.seq (.seq (.ops Agw) (.cond (.tmp 25) .skip (.exit 0))) (.pass 1 (.ops Agx)))
def Agr:Kp:=⟨[],[(0,false),(2,false),(3,false)],[(.loc 2 0,false)],[],[]⟩
def Agz:Sig:=⟨[(0,none),(2,some (.ptr (.loc 2 0) 0)),(3,some (.ty (.int .i64)))],[(.loc 2 0,(.box [none,none,none]))],[(.int .i64)],[],[]⟩
def Ags:Kp:=⟨[],[(2,false),(3,false)],[(.loc 2 0,false)],[],[]⟩
def Ag0:Sig:=⟨[(2,some (.ptr (.loc 2 0) 0)),(3,some (.ty (.int .i64)))],[(.loc 2 0,(.box [none,none,none]))],[(.int .i64)],[],[]⟩
def Agy:List TOp:=[oo 28 (.mov (.tmp 3)),oo 29 (.bin false .gtr (.tmp 28) (.cst (.int .i64 32)))]
def Acl:List TOp:=[ot 30 (.st 8) (.build [.pv (.int .i64 0),.pv (.int .i64 0),.pv (.int .i64 0)] [(2,1,(.cst (.int .i64 3)))]),on (.store 3 (.tmp 2) (.tmp 30))]
def Jx:Kp:=⟨[],[(2,false)],[(.loc 2 0,false)],[],[]⟩
def Acm:List TOp:=[oo 31 (.mov (.tmp 3)),ot 32 (.st 8) (.build [.pv (.int .i64 0),.pv (.int .i64 0),.pv (.int .i64 0)] [(0,1,(.cst (.int .i64 0))),(1,1,(.tmp 31))]),on (.store 3 (.tmp 2) (.tmp 32))]
def Amr:TFd:=⟨1,[(.cell 2 true 3,(.st 8))],[],(.seq (.ops Agu) (.seq (.ops Agv) (.seq (.join Ags Ag0 (.block 0 (.loop [0,2,3] [] Agr Agz Agt))) (.seq (.seq (.ops Agy) (.cond (.tmp 29) (.free (.seq (.ops Acl) (.keep Jx .ret))) .skip)) (.seq (.ops Acm) (.keep Jx .ret))))))⟩
noncomputable def Mm:Ent:=⟨[.ty .str],[],[.str],⟨(.ty (.st 8)),[],[],[(.st 8)],[],[]⟩,none,fun p=>Gb p⟩
theorem Afn:Mm.ok Tryz.prog 83:=Ar hm Tryz.func83 (fd:=Amr) (by kernel_rfl) (Ah (l:=[(82,F9),(84,C0)]) (y:=[]) ⟨Im,Dw,trivial⟩ trivial) (by kernel_rfl) (fun p=>by kernel_rfl)
def W8:List TOp:=[oo 2 (.mov (.cst (.int .i64 0)))]
def W9:List TOp:=[oo 3 (.mov (.cst (.int .i64 0)))]
def Xa:List TOp:=[oo 4 (.mov (.tmp 3)),oo 5 (.mov (.tmp 0)),oo 6 (.len true (.tmp 5)),oo 7 (.bin false .lss (.tmp 4) (.tmp 6)),oo 8 (.mov (.tmp 7)),og 9 8 true .bool (.mov (.tmp 0)),og 10 8 true .bool (.mov (.tmp 3)),og 11 8 true .bool (.sidx (.tmp 9) (.tmp 10)),og 12 8 true .bool (.call 0 0 (.cst (.fn 84)) [(.tmp 11)] [] []),oo 13 (.pick (.tmp 8) (.tmp 12) (.cst (.bool false)))]
def Xb:List TOp:=[oo 14 (.mov (.tmp 3)),oo 15 (.bin false .add (.tmp 14) (.cst (.int .i64 1))),oo 3 (.mov (.tmp 15))]
def W7:DC:=(.seq (.seq (.ops Xa) (.cond (.tmp 13) .skip (.exit 0))) (.pass 1 (.ops Xb)))
def W5:Kp:=⟨[],[(0,false),(3,false)],[],[],[]⟩
def Xd:Sig:=⟨[(0,none),(3,some (.ty (.int .i64)))],[],[(.int .i64)],[],[]⟩
def W6:Kp:=⟨[],[(3,false)],[],[],[]⟩
def Xe:Sig:=⟨[(3,some (.ty (.int .i64)))],[],[(.int .i64)],[],[]⟩
def Xc:List TOp:=[oo 16 (.mov (.tmp 3)),oo 2 (.mov (.tmp 16))]
def Tt:Kp:=⟨[],[(2,false)],[],[],[]⟩
def Af6:TFd:=⟨1,[(.tmp 2,.bool)],[],(.seq (.ops W8) (.seq (.ops W9) (.seq (.join W6 Xe (.block 0 (.loop [0,3] [] W5 Xd W7))) (.seq (.ops Xc) (.keep Tt .ret)))))⟩
noncomputable def I8:Ent:=⟨[.ty .str],[],[.str],⟨(.ty (.int .i64)),[],[],[(.int .i64)],[],[]⟩,none,fun p=>Cn p⟩
theorem V4:I8.ok Tryz.prog 107:=Ar hm Tryz.func107 (fd:=Af6) (by kernel_rfl) (Ah (l:=[(84,C0)]) (y:=[]) ⟨Dw,trivial⟩ trivial) (by kernel_rfl) (fun p=>by kernel_rfl)
def Xj:List TOp:=[oo 2 (.alloc [.pv (.int .i64 0),.pv (.int .i64 0),.pv (.int .i64 0)])]
def Xk:List TOp:=[oo 5 (.mov (.tmp 0)),oo 6 (.call 0 0 (.cst (.fn 107)) [(.tmp 5)] [] []),oo 3 (.mov (.tmp 6))]
def Xl:List TOp:=[oo 4 (.mov (.cst (.int .i64 0)))]
def Xm:List TOp:=[oo 7 (.mov (.tmp 3)),oo 8 (.bin false .add (.tmp 7) (.cst (.int .i64 1))),oo 9 (.mov (.tmp 0)),oo 10 (.len true (.tmp 9)),oo 11 (.bin false .lss (.tmp 8) (.tmp 10)),oo 12 (.mov (.tmp 11)),og 13 12 true .bool (.mov (.tmp 0)),og 14 12 true .bool (.mov (.tmp 3)),og 15 12 true .bool (.sidx (.tmp 13) (.tmp 14)),og 16 12 true .bool (.bin false .eql (.tmp 15) (.cst (.int .u8 46))),oo 17 (.pick (.tmp 12) (.tmp 16) (.cst (.bool false))),oo 18 (.mov (.tmp 17)),og 19 18 true .bool (.mov (.tmp 0)),og 20 18 true .bool (.mov (.tmp 3)),og 21 18 true .bool (.bin false .add (.tmp 20) (.cst (.int .i64 1))),og 22 18 true .bool (.sidx (.tmp 19) (.tmp 21)),og 23 18 true .bool (.call 0 0 (.cst (.fn 84)) [(.tmp 22)] [] []),oo 24 (.pick (.tmp 18) (.tmp 23) (.cst (.bool false)))]
def Xn:List TOp:=[oo 25 (.mov (.tmp 0)),oo 26 (.mov (.tmp 3)),oo 27 (.bin false .add (.tmp 26) (.cst (.int .i64 1))),oo 28 (.slc true 0 (.tmp 25) (some (.tmp 27)) none),oo 29 (.call 0 0 (.cst (.fn 107)) [(.tmp 28)] [] []),oo 4 (.mov (.tmp 29))]
def Xi:Kp:=⟨[],[(0,false),(2,false),(3,false),(4,false)],[(.loc 2 0,false)],[],[]⟩
def Xq:Sig:=⟨[(0,none),(2,some (.ptr (.loc 2 0) 0)),(3,none),(4,some (.ty (.int .i64)))],[(.loc 2 0,(.box [none,none,none]))],[(.int .i64)],[],[]⟩
def Xo:List TOp:=[oo 30 (.mov (.tmp 3)),oo 31 (.bin false .gtr (.tmp 30) (.cst (.int .i64 15))),oo 32 (.mov (.tmp 31)),og 33 32 false .bool (.mov (.tmp 4)),og 34 32 false .bool (.bin false .gtr (.tmp 33) (.cst (.int .i64 9))),oo 35 (.pick (.tmp 32) (.cst (.bool true)) (.tmp 34)),oo 36 (.mov (.tmp 35)),og 37 36 false .bool (.mov (.tmp 3)),og 38 36 false .bool (.bin false .gtr (.tmp 37) (.cst (.int .i64 1))),og 39 36 false .bool (.mov (.tmp 38)),og 40 39 true .bool (.mov (.tmp 0)),og 41 39 true .bool (.sidx (.tmp 40) (.cst (.int .i64 0))),og 42 39 true .bool (.bin false .eql (.tmp 41) (.cst (.int .u8 48))),og 43 36 false .bool (.pick (.tmp 39) (.tmp 42) (.cst (.bool false))),oo 44 (.pick (.tmp 36) (.cst (.bool true)) (.tmp 43))]
def Xp:List TOp:=[ot 45 (.st 8) (.build [.pv (.int .i64 0),.pv (.int .i64 0),.pv (.int .i64 0)] [(2,1,(.cst (.int .i64 3)))]),on (.store 3 (.tmp 2) (.tmp 45))]
def Fs:Kp:=⟨[],[(2,false)],[(.loc 2 0,false)],[],[]⟩
def Tu:List TOp:=[oo 46 (.mov (.tmp 4)),oo 47 (.bin false .gtr (.tmp 46) (.cst (.int .i64 0)))]
def Tv:List TOp:=[oo 48 (.mov (.tmp 3)),oo 49 (.bin false .add (.tmp 48) (.cst (.int .i64 1))),oo 50 (.mov (.tmp 4)),oo 51 (.bin false .add (.tmp 49) (.tmp 50)),ot 52 (.st 8) (.build [.pv (.int .i64 0),.pv (.int .i64 0),.pv (.int .i64 0)] [(0,1,(.cst (.int .i64 1))),(1,1,(.tmp 51))]),on (.store 3 (.tmp 2) (.tmp 52))]
def Tw:List TOp:=[oo 53 (.mov (.tmp 3)),ot 54 (.st 8) (.build [.pv (.int .i64 0),.pv (.int .i64 0),.pv (.int .i64 0)] [(0,1,(.cst (.int .i64 1))),(1,1,(.tmp 53))]),on (.store 3 (.tmp 2) (.tmp 54))]
def Agg:TFd:=⟨1,[(.cell 2 true 3,(.st 8))],[],(.seq (.ops Xj) (.seq (.ops Xk) (.seq (.ops Xl) (.seq (.seq (.ops Xm) (.join Xi Xq (.cond (.tmp 24) (.ops Xn) .skip))) (.seq (.seq (.ops Xo) (.cond (.tmp 44) (.free (.seq (.ops Xp) (.keep Fs .ret))) .skip)) (.seq (.seq (.ops Tu) (.cond (.tmp 47) (.free (.seq (.ops Tv) (.keep Fs .ret))) .skip)) (.seq (.ops Tw) (.keep Fs .ret))))))))⟩
noncomputable def I9:Ent:=⟨[.ty .str],[],[.str],⟨(.ty (.st 8)),[],[],[(.st 8)],[],[]⟩,none,fun p=>Ep p⟩
theorem V5:I9.ok Tryz.prog 85:=Ar hm Tryz.func85 (fd:=Agg) (by kernel_rfl) (Ah (l:=[(107,I8),(84,C0)]) (y:=[]) ⟨V4,Dw,trivial⟩ trivial) (by kernel_rfl) (fun p=>by kernel_rfl)
def Xs:List TOp:=[oo 2 (.alloc [.pv (.int .i64 0),.pv (.int .i64 0),.pv (.int .i64 0)])]
def Xt:List TOp:=[oo 3 (.mov (.cst (.int .i64 1)))]
def Xu:List TOp:=[oo 5 (.mov (.tmp 3)),oo 6 (.mov (.tmp 0)),oo 7 (.len true (.tmp 6)),oo 8 (.bin false .lss (.tmp 5) (.tmp 7)),oo 9 (.mov (.tmp 8)),og 10 9 true .bool (.mov (.tmp 0)),og 11 9 true .bool (.mov (.tmp 3)),og 12 9 true .bool (.sidx (.tmp 10) (.tmp 11)),og 13 9 true .bool (.bin false .neq (.tmp 12) (.cst (.int .u8 34))),oo 14 (.pick (.tmp 9) (.tmp 13) (.cst (.bool false)))]
def Xv:List TOp:=[oo 15 (.mov (.tmp 3)),oo 16 (.bin false .add (.tmp 15) (.cst (.int .i64 1))),oo 3 (.mov (.tmp 16))]
def Xr:DC:=(.seq (.seq (.ops Xu) (.cond (.tmp 14) .skip (.exit 0))) (.pass 1 (.ops Xv)))
def Iy:Kp:=⟨[],[(0,false),(2,false),(3,false)],[(.loc 2 0,false)],[],[]⟩
def Iz:Sig:=⟨[(0,none),(2,some (.ptr (.loc 2 0) 0)),(3,some (.ty (.int .i64)))],[(.loc 2 0,(.box [none,none,none]))],[(.int .i64)],[],[]⟩
def Xw:List TOp:=[oo 17 (.mov (.tmp 3)),oo 18 (.mov (.tmp 0)),oo 19 (.len true (.tmp 18)),oo 20 (.bin false .eql (.tmp 17) (.tmp 19))]
def Xx:List TOp:=[ot 21 (.st 8) (.build [.pv (.int .i64 0),.pv (.int .i64 0),.pv (.int .i64 0)] [(2,1,(.cst (.int .i64 14)))]),on (.store 3 (.tmp 2) (.tmp 21))]
def Di:Kp:=⟨[],[(2,false)],[(.loc 2 0,false)],[],[]⟩
def T3:List TOp:=[oo 4 (.mov (.cst (.int .i64 1)))]
def T4:List TOp:=[oo 22 (.mov (.tmp 4)),oo 23 (.mov (.tmp 3)),oo 24 (.bin false .lss (.tmp 22) (.tmp 23))]
def T5:List TOp:=[oo 27 (.mov (.tmp 0)),oo 28 (.mov (.tmp 4)),oo 29 (.sidx (.tmp 27) (.tmp 28)),oo 30 (.bin false .lss (.tmp 29) (.cst (.int .u8 32))),oo 31 (.mov (.tmp 30)),og 32 31 false .bool (.mov (.tmp 0)),og 33 31 false .bool (.mov (.tmp 4)),og 34 31 false .bool (.sidx (.tmp 32) (.tmp 33)),og 35 31 false .bool (.bin false .gtr (.tmp 34) (.cst (.int .u8 126))),oo 36 (.pick (.tmp 31) (.cst (.bool true)) (.tmp 35))]
def T6:List TOp:=[ot 37 (.st 8) (.build [.pv (.int .i64 0),.pv (.int .i64 0),.pv (.int .i64 0)] [(2,1,(.cst (.int .i64 3)))]),on (.store 3 (.tmp 2) (.tmp 37))]
def T7:List TOp:=[oo 25 (.mov (.tmp 4)),oo 26 (.bin false .add (.tmp 25) (.cst (.int .i64 1))),oo 4 (.mov (.tmp 26))]
def T0:DC:=(.seq (.seq (.ops T4) (.cond (.tmp 24) .skip (.exit 2))) (.seq (.pass 3 (.seq (.ops T5) (.cond (.tmp 36) (.free (.seq (.ops T6) (.keep Di .ret))) .skip))) (.ops T7)))
def Tx:Kp:=⟨[],[(0,false),(2,false),(3,false),(4,false)],[(.loc 2 0,false)],[],[]⟩
def Ub:Sig:=⟨[(0,none),(2,some (.ptr (.loc 2 0) 0)),(3,none),(4,some (.ty (.int .i64)))],[(.loc 2 0,(.box [none,none,none]))],[(.int .i64)],[],[]⟩
def Tz:Kp:=⟨[],[(2,false),(3,false)],[(.loc 2 0,false)],[],[]⟩
def Uc:Sig:=⟨[(2,some (.ptr (.loc 2 0) 0)),(3,none)],[(.loc 2 0,(.box [none,none,none]))],[],[],[]⟩
def T8:List TOp:=[oo 38 (.mov (.tmp 3)),oo 39 (.bin false .gtr (.tmp 38) (.cst (.int .i64 33)))]
def T9:List TOp:=[ot 40 (.st 8) (.build [.pv (.int .i64 0),.pv (.int .i64 0),.pv (.int .i64 0)] [(2,1,(.cst (.int .i64 3)))]),on (.store 3 (.tmp 2) (.tmp 40))]
def Ua:List TOp:=[oo 41 (.mov (.tmp 3)),oo 42 (.bin false .add (.tmp 41) (.cst (.int .i64 1))),ot 43 (.st 8) (.build [.pv (.int .i64 0),.pv (.int .i64 0),.pv (.int .i64 0)] [(0,1,(.cst (.int .i64 2))),(1,1,(.tmp 42))]),on (.store 3 (.tmp 2) (.tmp 43))]
def Agh:TFd:=⟨1,[(.cell 2 true 3,(.st 8))],[],(.seq (.ops Xs) (.seq (.ops Xt) (.seq (.join Iy Iz (.block 0 (.loop [0,2,3] [] Iy Iz Xr))) (.seq (.seq (.ops Xw) (.cond (.tmp 20) (.free (.seq (.ops Xx) (.keep Di .ret))) .skip)) (.seq (.seq (.ops T3) (.joinO Tz Uc (.block 2 (.loop [0,2,3,4] [] Tx Ub T0)))) (.seq (.seq (.ops T8) (.cond (.tmp 39) (.free (.seq (.ops T9) (.keep Di .ret))) .skip)) (.seq (.ops Ua) (.keep Di .ret))))))))⟩
noncomputable def Ja:Ent:=⟨[.ty .str],[],[.str],⟨(.ty (.st 8)),[],[],[(.st 8)],[],[]⟩,none,fun p=>Er p⟩
theorem V6:Ja.ok Tryz.prog 86:=Ar hm Tryz.func86 (fd:=Agh) (by kernel_rfl) (Ah (l:=[]) (y:=[]) trivial trivial) (by kernel_rfl) (fun p=>by kernel_rfl)
def Agi:List TOp:=[oo 2 (.alloc [.pv (.int .i64 0),.pv (.int .i64 0),.pv (.int .i64 0)])]
def Agj:List TOp:=[oo 5 (.mov (.tmp 0)),oo 6 (.len true (.tmp 5)),oo 7 (.bin false .gtr (.tmp 6) (.cst (.int .i64 1))),oo 8 (.mov (.tmp 7)),og 9 8 true .bool (.mov (.tmp 0)),og 10 8 true .bool (.slc true 0 (.tmp 9) none (some (.cst (.int .i64 2)))),og 11 8 true .bool (.bin false .eql (.tmp 10) (.cst (.str [60,61]))),og 12 8 true .bool (.mov (.tmp 11)),og 13 12 false .bool (.mov (.tmp 0)),og 14 12 false .bool (.slc true 0 (.tmp 13) none (some (.cst (.int .i64 2)))),og 15 12 false .bool (.bin false .eql (.tmp 14) (.cst (.str [62,61]))),og 16 8 true .bool (.pick (.tmp 12) (.cst (.bool true)) (.tmp 15)),og 17 8 true .bool (.mov (.tmp 16)),og 18 17 false .bool (.mov (.tmp 0)),og 19 17 false .bool (.slc true 0 (.tmp 18) none (some (.cst (.int .i64 2)))),og 20 17 false .bool (.bin false .eql (.tmp 19) (.cst (.str [46,46]))),og 21 8 true .bool (.pick (.tmp 17) (.cst (.bool true)) (.tmp 20)),oo 22 (.pick (.tmp 8) (.tmp 21) (.cst (.bool false)))]
def Agk:List TOp:=[ot 23 (.st 8) (.build [.pv (.int .i64 0),.pv (.int .i64 0),.pv (.int .i64 0)] [(0,1,(.cst (.int .i64 3))),(1,1,(.cst (.int .i64 2)))]),on (.store 3 (.tmp 2) (.tmp 23))]
def Eg:Kp:=⟨[],[(2,false)],[(.loc 2 0,false)],[],[]⟩
def Agl:List TOp:=[oo 3 (.mov (.cst (.str [123,125,40,41,91,93,59,58,44,37,61,60,62,43,45,42,47])))]
def Agm:List TOp:=[oo 4 (.mov (.cst (.int .i64 0)))]
def Agn:List TOp:=[oo 24 (.mov (.tmp 4)),oo 25 (.mov (.tmp 3)),oo 26 (.len true (.tmp 25)),oo 27 (.bin false .lss (.tmp 24) (.tmp 26))]
def Ago:List TOp:=[oo 30 (.mov (.tmp 3)),oo 31 (.mov (.tmp 4)),oo 32 (.sidx (.tmp 30) (.tmp 31)),oo 33 (.mov (.tmp 0)),oo 34 (.sidx (.tmp 33) (.cst (.int .i64 0))),oo 35 (.bin false .eql (.tmp 32) (.tmp 34))]
def Agp:List TOp:=[ot 36 (.st 8) (.build [.pv (.int .i64 0),.pv (.int .i64 0),.pv (.int .i64 0)] [(0,1,(.cst (.int .i64 3))),(1,1,(.cst (.int .i64 1)))]),on (.store 3 (.tmp 2) (.tmp 36))]
def Agq:List TOp:=[oo 28 (.mov (.tmp 4)),oo 29 (.bin false .add (.tmp 28) (.cst (.int .i64 1))),oo 4 (.mov (.tmp 29))]
def Ach:DC:=(.seq (.seq (.ops Agn) (.cond (.tmp 27) .skip (.exit 0))) (.seq (.pass 1 (.seq (.draw [] Ago) (.cond (.tmp 35) (.free (.seq (.ops Agp) (.keep Eg .ret))) .skip))) (.ops Agq)))
def Acg:Kp:=⟨[],[(0,false),(2,false),(3,false),(4,false)],[(.loc 2 0,false)],[],[]⟩
def Acj:Sig:=⟨[(0,none),(2,some (.ptr (.loc 2 0) 0)),(3,none),(4,some (.ty (.int .i64)))],[(.loc 2 0,(.box [none,none,none]))],[(.int .i64)],[],[]⟩
def Ack:Sig:=⟨[(2,some (.ptr (.loc 2 0) 0))],[(.loc 2 0,(.box [none,none,none]))],[],[],[]⟩
def Aci:List TOp:=[ot 37 (.st 8) (.build [.pv (.int .i64 0),.pv (.int .i64 0),.pv (.int .i64 0)] [(2,1,(.cst (.int .i64 14)))]),on (.store 3 (.tmp 2) (.tmp 37))]
def Amq:TFd:=⟨1,[(.cell 2 true 3,(.st 8))],[],(.seq (.ops Agi) (.seq (.seq (.ops Agj) (.cond (.tmp 22) (.free (.seq (.ops Agk) (.keep Eg .ret))) .skip)) (.seq (.ops Agl) (.seq (.seq (.ops Agm) (.joinO Eg Ack (.block 0 (.loop [0,2,3,4] [] Acg Acj Ach)))) (.seq (.ops Aci) (.keep Eg .ret))))))⟩
noncomputable def Ml:Ent:=⟨[.ty .str],[],[.str],⟨(.ty (.st 8)),[],[],[(.st 8)],[],[]⟩,none,fun p=>Ga p⟩
theorem Afm:Ml.ok Tryz.prog 87:=Ar hm Tryz.func87 (fd:=Amq) (by kernel_rfl) (Ah (l:=[]) (y:=[]) trivial trivial) (by kernel_rfl) (fun p=>by kernel_rfl)
def Af8:List TOp:=[oo 2 (.alloc [.pv (.int .i64 0),.pv (.int .i64 0),.pv (.int .i64 0)])]
def Af9:List TOp:=[oo 3 (.mov (.tmp 0)),oo 4 (.sidx (.tmp 3) (.cst (.int .i64 0))),oo 5 (.call 0 0 (.cst (.fn 82)) [(.tmp 4)] [] [])]
def Aga:List TOp:=[oo 6 (.mov (.tmp 0)),oo 7 (.call 0 0 (.cst (.fn 83)) [(.tmp 6)] [] []),on (.store 3 (.tmp 2) (.tmp 7))]
def Ef:Kp:=⟨[],[(2,false)],[(.loc 2 0,false)],[],[]⟩
def Agb:List TOp:=[oo 8 (.mov (.tmp 0)),oo 9 (.sidx (.tmp 8) (.cst (.int .i64 0))),oo 10 (.call 0 0 (.cst (.fn 84)) [(.tmp 9)] [] [])]
def Agc:List TOp:=[oo 11 (.mov (.tmp 0)),oo 12 (.call 0 0 (.cst (.fn 85)) [(.tmp 11)] [] []),on (.store 3 (.tmp 2) (.tmp 12))]
def Agd:List TOp:=[oo 13 (.mov (.tmp 0)),oo 14 (.sidx (.tmp 13) (.cst (.int .i64 0))),oo 15 (.bin false .eql (.tmp 14) (.cst (.int .u8 34)))]
def Age:List TOp:=[oo 16 (.mov (.tmp 0)),oo 17 (.call 0 0 (.cst (.fn 86)) [(.tmp 16)] [] []),on (.store 3 (.tmp 2) (.tmp 17))]
def Agf:List TOp:=[oo 18 (.mov (.tmp 0)),oo 19 (.call 0 0 (.cst (.fn 87)) [(.tmp 18)] [] []),on (.store 3 (.tmp 2) (.tmp 19))]
def Amp:TFd:=⟨1,[(.cell 2 true 3,(.st 8))],[],(.seq (.ops Af8) (.seq (.seq (.ops Af9) (.cond (.tmp 5) (.free (.seq (.ops Aga) (.keep Ef .ret))) .skip)) (.seq (.seq (.ops Agb) (.cond (.tmp 10) (.free (.seq (.ops Agc) (.keep Ef .ret))) .skip)) (.seq (.seq (.ops Agd) (.cond (.tmp 15) (.free (.seq (.ops Age) (.keep Ef .ret))) .skip)) (.seq (.ops Agf) (.keep Ef .ret))))))⟩
noncomputable def G5:Ent:=⟨[.ty .str],[],[.str],⟨(.ty (.st 8)),[],[],[(.st 8)],[],[]⟩,none,fun p=>C5 p⟩
theorem K3:G5.ok Tryz.prog 51:=Ar hm Tryz.func51 (fd:=Amp) (by kernel_rfl) (Ah (l:=[(82,F9),(83,Mm),(84,C0),(85,I9),(86,Ja),(87,Ml)]) (y:=[]) ⟨Im,Afn,Dw,V5,V6,Afm,trivial⟩ trivial) (by kernel_rfl) (fun p=>by kernel_rfl)
def Abr:List TOp:=[oo 4 (.mov (.cst (.int .i64 0))),oo 5 (.mov (.cst (.int .i64 0)))]
def Abs:List TOp:=[oo 6 (.mov (.cst (.int .i64 1)))]
def Abt:List TOp:=[oo 7 (.mov (.cst (.int .i64 1)))]
def Abu:List TOp:=[oo 8 (.mov (.cst (.int .i64 0)))]
def Abv:List TOp:=[oo 9 (.mov (.tmp 8)),oo 10 (.mov (.tmp 1)),oo 11 (.bin false .lss (.tmp 9) (.tmp 10))]
def Abw:List TOp:=[oo 14 (.mov (.tmp 7)),oo 15 (.bin false .add (.tmp 14) (.cst (.int .i64 1))),oo 7 (.mov (.tmp 15))]
def Abx:List TOp:=[oo 16 (.mov (.tmp 0)),oo 17 (.mov (.tmp 8)),oo 18 (.sidx (.tmp 16) (.tmp 17)),oo 19 (.bin false .eql (.tmp 18) (.cst (.int .u8 10)))]
def Aby:List TOp:=[oo 20 (.mov (.tmp 6)),oo 21 (.bin false .add (.tmp 20) (.cst (.int .i64 1))),oo 6 (.mov (.tmp 21))]
def Abz:List TOp:=[oo 7 (.mov (.cst (.int .i64 1)))]
def Jt:Kp:=⟨[],[(0,false),(1,false),(6,false),(7,false),(8,false)],[],[],[]⟩
def Wv:Sig:=⟨[(0,none),(1,none),(6,some (.ty (.int .i64))),(7,some (.ty (.int .i64))),(8,none)],[],[(.int .i64),(.int .i64)],[],[]⟩
def Wt:List TOp:=[oo 12 (.mov (.tmp 8)),oo 13 (.bin false .add (.tmp 12) (.cst (.int .i64 1))),oo 8 (.mov (.tmp 13))]
def Ws:DC:=(.seq (.seq (.ops Abv) (.cond (.tmp 11) .skip (.exit 0))) (.seq (.pass 1 (.seq (.ops Abw) (.seq (.ops Abx) (.join Jt Wv (.cond (.tmp 19) (.seq (.ops Aby) (.ops Abz)) .skip))))) (.ops Wt)))
def Ww:Sig:=⟨[(0,none),(1,none),(6,some (.ty (.int .i64))),(7,some (.ty (.int .i64))),(8,some (.ty (.int .i64)))],[],[(.int .i64),(.int .i64),(.int .i64)],[],[]⟩
def Wq:Kp:=⟨[],[(6,false),(7,false)],[],[],[]⟩
def Wx:Sig:=⟨[(6,some (.ty (.int .i64))),(7,some (.ty (.int .i64)))],[],[(.int .i64),(.int .i64)],[],[]⟩
def Wu:List TOp:=[oo 22 (.mov (.tmp 6)),oo 23 (.mov (.tmp 7)),oo 4 (.mov (.tmp 22)),oo 5 (.mov (.tmp 23))]
def Wr:Kp:=⟨[],[(4,false),(5,false)],[],[],[]⟩
def Aj2:TFd:=⟨2,[(.tmp 4,.bool),(.tmp 5,.bool)],[],(.seq (.ops Abr) (.seq (.ops Abs) (.seq (.ops Abt) (.seq (.seq (.ops Abu) (.join Wq Wx (.block 0 (.loop [0,1,6,7,8] [] Jt Ww Ws)))) (.seq (.ops Wu) (.keep Wr .ret))))))⟩
noncomputable def Ee:Ent:=⟨[.ty .str,.ty (.int .i64)],[],[.str,(.int .i64)],⟨(.tup [(.ty (.int .i64)),(.ty (.int .i64))]),[],[],[(.int .i64),(.int .i64)],[],[]⟩,none,fun p=>Cc p.1 p.2⟩
theorem F8:Ee.ok Tryz.prog 32:=Ar hm Tryz.func32 (fd:=Aj2) (by kernel_rfl) (Ah (l:=[]) (y:=[]) trivial trivial) (by kernel_rfl) (fun p=>by kernel_rfl)
def Ajt:List TOp:=[oo 2 (.mov .nils),oo 3 (.mov (.cst (.int .i64 0))),oo 4 (.mov (.cst (.int .i64 0)))]
def Aju:List TOp:=[oo 10 (.mov (.tmp 0)),oo 11 (.len true (.tmp 10)),oo 12 (.bin false .gtr (.tmp 11) (.cst (.int .i64 8000)))]
def Ajv:List TOp:=[oo 2 (.mov .nils),oo 3 (.mov (.cst (.int .i64 0))),oo 4 (.mov (.cst (.int .i64 4)))]
def E2:Kp:=⟨[],[(2,true),(3,false),(4,false)],[],[],[]⟩
def Ajw:List TOp:=[ot 13 (.st 2) (.lit false 4 []),oo 5 (.mov (.tmp 13))]
def Ajx:List TOp:=[oo 14 (.mov (.tmp 0)),oo 15 (.call 0 0 (.cst (.fn 50)) [(.tmp 14)] [] []),oo 6 (.mov (.tmp 15))]
def Ajy:List TOp:=[oo 16 (.mov (.tmp 6)),oo 17 (.mov (.tmp 0)),oo 18 (.len true (.tmp 17)),oo 19 (.bin false .lss (.tmp 16) (.tmp 18))]
def Ajz:List TOp:=[oo 20 (.mov (.tmp 0)),oo 21 (.mov (.tmp 6)),oo 22 (.slc true 0 (.tmp 20) (some (.tmp 21)) none),oo 23 (.call 0 0 (.cst (.fn 51)) [(.tmp 22)] [] []),oo 7 (.alloc [.pv (.int .i64 0),.pv (.int .i64 0),.pv (.int .i64 0)]),on (.store 3 (.tmp 7) (.tmp 23))]
def Aj0:List TOp:=[oo 24 (.fld 2 (.tmp 7)),oo 25 (.load false 1 (.tmp 24)),oo 26 (.bin false .neq (.tmp 25) (.cst (.int .i64 0)))]
def Aj1:List TOp:=[oo 27 (.mov (.tmp 6)),oo 28 (.fld 2 (.tmp 7)),oo 29 (.load false 1 (.tmp 28)),oo 2 (.mov .nils),oo 3 (.mov (.tmp 27)),oo 4 (.mov (.tmp 29))]
def Afx:List TOp:=[oo 30 (.mov (.tmp 5)),oo 31 (.len false (.tmp 30)),oo 32 (.bin false .eql (.tmp 31) (.cst (.int .i64 1500)))]
def Afy:List TOp:=[oo 33 (.mov (.tmp 6)),oo 2 (.mov .nils),oo 3 (.mov (.tmp 33)),oo 4 (.mov (.cst (.int .i64 6)))]
def Afz:List TOp:=[oo 35 (.mov (.tmp 0)),oo 36 (.mov (.tmp 6)),oo 37 (.call 0 0 (.cst (.fn 32)) [(.tmp 35),(.tmp 36)] [] []),oo 34 (.mov (.tmp 37)),oo 38 (.ext 0 (.tmp 34)),oo 39 (.ext 1 (.tmp 34)),oo 8 (.mov (.tmp 38)),oo 9 (.mov (.tmp 39))]
def Af0:List TOp:=[oo 40 (.mov (.tmp 5)),oo 41 (.fld 0 (.tmp 7)),oo 42 (.load false 1 (.tmp 41)),oo 43 (.mov (.tmp 8)),oo 44 (.mov (.tmp 9)),oo 45 (.mov (.tmp 0)),oo 46 (.mov (.tmp 6)),oo 47 (.mov (.tmp 6)),oo 48 (.fld 1 (.tmp 7)),oo 49 (.load false 1 (.tmp 48)),oo 50 (.bin false .add (.tmp 47) (.tmp 49)),oo 51 (.slc true 0 (.tmp 45) (some (.tmp 46)) (some (.tmp 50))),ot 52 (.st 2) (.build [.pv (.int .i64 0),.pv (.int .i64 0),.pv (.int .i64 0),.pv (.str [])] [(0,1,(.tmp 42)),(1,1,(.tmp 43)),(2,1,(.tmp 44)),(3,1,(.tmp 51))]),ot 53 (.st 2) (.lit false 4 [(.tmp 52)]),ot 54 (.st 2) (.append 54 4 40 (.tmp 40) (.tmp 53)),oo 5 (.mov (.tmp 54))]
def Af1:List TOp:=[oo 55 (.mov (.tmp 6)),oo 56 (.fld 1 (.tmp 7)),oo 57 (.load false 1 (.tmp 56)),oo 58 (.bin false .add (.tmp 55) (.tmp 57)),oo 6 (.mov (.tmp 58))]
def Af2:List TOp:=[oo 59 (.mov (.tmp 6)),oo 60 (.mov (.tmp 0)),oo 61 (.mov (.tmp 6)),oo 62 (.slc true 0 (.tmp 60) (some (.tmp 61)) none),oo 63 (.call 0 0 (.cst (.fn 50)) [(.tmp 62)] [] []),oo 64 (.bin false .add (.tmp 59) (.tmp 63)),oo 6 (.mov (.tmp 64))]
def Afw:DC:=(.seq (.seq (.ops Ajy) (.cond (.tmp 19) .skip (.exit 0))) (.pass 1 (.seq (.ops Ajz) (.seq (.seq (.ops Aj0) (.cond (.tmp 26) (.free (.seq (.draw [] Aj1) (.keep E2 .ret))) .skip)) (.seq (.seq (.ops Afx) (.cond (.tmp 32) (.free (.seq (.ops Afy) (.keep E2 .ret))) .skip)) (.seq (.ops Afz) (.seq (.draw [] Af0) (.seq (.ops Af1) (.ops Af2)))))))))
def Afu:Kp:=⟨[],[(0,false),(5,false),(6,false)],[(.loc 54 0,false)],[.loc 7 0],[((.slot 5 (.loc 54 0) 4),(.st 2))]⟩
def Af4:Sig:=⟨[(0,none),(5,some (.own (.loc 54 0))),(6,some (.ty (.int .i64)))],[(.loc 54 0,(.row (.st 2)))],[(.int .i64),(.sl (.st 2))],[],[]⟩
def Afv:Kp:=⟨[.loc 54 0],[(5,true)],[],[],[]⟩
def Af5:Sig:=⟨[(5,some (.ty (.sl (.st 2))))],[],[(.sl (.st 2))],[],[]⟩
def Af3:List TOp:=[oo 65 (.mov (.tmp 5)),oo 2 (.mov (.tmp 65)),oo 3 (.mov (.cst (.int .i64 0))),oo 4 (.mov (.cst (.int .i64 0)))]
def Apo:TFd:=⟨1,[(.tmp 2,.bool),(.tmp 3,.bool),(.tmp 4,.bool)],[],(.seq (.ops Ajt) (.seq (.seq (.ops Aju) (.cond (.tmp 12) (.free (.seq (.ops Ajv) (.keep E2 .ret))) .skip)) (.seq (.ops Ajw) (.seq (.ops Ajx) (.seq (.joinO Afv Af5 (.block 0 (.loop [0,5,6] [] Afu Af4 Afw))) (.seq (.ops Af3) (.keep E2 .ret)))))))⟩
noncomputable def Oa:Ent:=⟨[.ty .str],[],[.str],⟨(.tup [(.ty (.sl (.st 2))),(.ty (.int .i64)),(.ty (.int .i64))]),[],[],[(.sl (.st 2)),(.int .i64),(.int .i64)],[],[]⟩,none,fun p=>Cq p⟩
theorem Aiu:Oa.ok Tryz.prog 26:=Ar hm Tryz.func26 (fd:=Apo) (by kernel_rfl) (Ah (l:=[(50,K0),(51,G5),(32,Ee)]) (y:=[]) ⟨Aav,K3,F8,trivial⟩ trivial) (by kernel_rfl) (fun p=>by kernel_rfl)
def Am3:List TOp:=[oo 6 (.mov (.cst (.bool false)))]
def Am4:List TOp:=[oo 7 (.mov (.tmp 1)),oo 8 (.mov (.tmp 0)),oo 9 (.len false (.tmp 8)),oo 10 (.bin false .lss (.tmp 7) (.tmp 9)),oo 11 (.mov (.tmp 10)),og 12 11 true .bool (.mov (.tmp 0)),og 13 11 true .bool (.mov (.tmp 1)),og 14 11 true .bool (.idx 4 (.tmp 12) (.tmp 13)),og 15 11 true .bool (.fld 0 (.tmp 14)),og 16 11 true .bool (.load false 1 (.tmp 15)),og 17 11 true .bool (.bin false .neq (.tmp 16) (.cst (.int .i64 2))),oo 18 (.pick (.tmp 11) (.tmp 17) (.cst (.bool false))),oo 19 (.mov (.tmp 18)),og 20 19 true .bool (.mov (.tmp 0)),og 21 19 true .bool (.mov (.tmp 1)),og 22 19 true .bool (.idx 4 (.tmp 20) (.tmp 21)),og 23 19 true .bool (.fld 3 (.tmp 22)),og 24 19 true .bool (.load false 1 (.tmp 23)),og 25 19 true .bool (.mov (.tmp 2)),og 26 19 true .bool (.bin false .eql (.tmp 24) (.tmp 25)),oo 27 (.pick (.tmp 19) (.tmp 26) (.cst (.bool false))),oo 6 (.mov (.tmp 27))]
def Am2:Kp:=⟨[],[(6,false)],[],[],[]⟩
def Ars:TFd:=⟨3,[(.tmp 6,.bool)],[],(.seq (.ops Am3) (.seq (.ops Am4) (.keep Am2 .ret)))⟩
def Ib:Ent:=⟨[.ty (.sl (.st 2)),.ty (.int .i64),.ty .str],[],[(.sl (.st 2)),(.int .i64),.str],⟨(.ty .bool),[],[],[.bool],[],[]⟩,none,fun p=>Ba p.1 p.2.1 p.2.2⟩
theorem Oc:Ib.ok Tryz.prog 94:=Ar hm Tryz.func94 (fd:=Ars) (by kernel_rfl) (Ah (l:=[]) (y:=[]) trivial trivial) (by kernel_rfl) (fun p=>by kernel_rfl)
def Amu:List TOp:=[oo 4 (.mov (.cst (.bool false)))]
def Amv:List TOp:=[oo 5 (.mov (.cst (.int .i64 0)))]
def Amw:List TOp:=[oo 6 (.mov (.tmp 5)),oo 7 (.mov (.tmp 0)),oo 8 (.len false (.tmp 7)),oo 9 (.bin false .lss (.tmp 6) (.tmp 8))]
def Amx:List TOp:=[oo 12 (.mov (.tmp 0)),oo 13 (.mov (.tmp 5)),oo 14 (.idx 1 (.tmp 12) (.tmp 13)),oo 15 (.load false 1 (.tmp 14)),oo 16 (.mov (.tmp 1)),oo 17 (.bin false .eql (.tmp 15) (.tmp 16))]
def Amy:List TOp:=[oo 4 (.mov (.cst (.bool true)))]
def Oi:Kp:=⟨[],[(4,false)],[],[],[]⟩
def Amz:List TOp:=[oo 10 (.mov (.tmp 5)),oo 11 (.bin false .add (.tmp 10) (.cst (.int .i64 1))),oo 5 (.mov (.tmp 11))]
def Amt:DC:=(.seq (.seq (.ops Amw) (.cond (.tmp 9) .skip (.exit 0))) (.seq (.pass 1 (.seq (.ops Amx) (.cond (.tmp 17) (.free (.seq (.ops Amy) (.keep Oi .ret))) .skip))) (.ops Amz)))
def Ams:Kp:=⟨[],[(0,false),(1,false),(5,false)],[],[],[]⟩
def Am0:Sig:=⟨[(0,none),(1,none),(5,some (.ty (.int .i64)))],[],[(.int .i64)],[],[]⟩
def Akg:Kp:=⟨[],[],[],[],[]⟩
def Aki:Sig:=⟨[],[],[],[],[]⟩
def Akh:List TOp:=[oo 4 (.mov (.cst (.bool false)))]
def Arr:TFd:=⟨2,[(.tmp 4,.bool)],[],(.seq (.ops Amu) (.seq (.seq (.ops Amv) (.joinO Akg Aki (.block 0 (.loop [0,1,5] [] Ams Am0 Amt)))) (.seq (.ops Akh) (.keep Oi .ret))))⟩
noncomputable def Qb:Ent:=⟨[.ty (.sl .str),.ty .str],[],[(.sl .str),.str],⟨(.ty .bool),[],[],[.bool],[],[]⟩,none,fun p=>Fo p.1 p.2⟩
theorem Aml:Qb.ok Tryz.prog 116:=Ar hm Tryz.func116 (fd:=Arr) (by kernel_rfl) (Ah (l:=[]) (y:=[]) trivial trivial) (by kernel_rfl) (fun p=>by kernel_rfl)
def Akl:List TOp:=[oo 4 (.mov (.cst (.bool false)))]
def Akm:List TOp:=[ot 7 .str (.lit false 1 [(.cst (.str [105,102])),(.cst (.str [116,104,101,110])),(.cst (.str [101,108,115,101])),(.cst (.str [97,110,100])),(.cst (.str [111,114])),(.cst (.str [110,111,116])),(.cst (.str [109,105,110])),(.cst (.str [109,97,120]))]),oo 8 (.mov (.tmp 0)),oo 9 (.call 0 0 (.cst (.fn 116)) [(.tmp 7),(.tmp 8)] [] []),oo 5 (.mov (.tmp 9))]
def Akn:List TOp:=[ot 10 .str (.lit false 1 [(.cst (.str [112,114,111,100,117,99,116])),(.cst (.str [98,97,115,105,115])),(.cst (.str [112,101,114,105,111,100])),(.cst (.str [116,105,101,114,115])),(.cst (.str [102,101,101])),(.cst (.str [109,105,110,105,109,117,109])),(.cst (.str [111,118,101,114,100,114,97,102,116])),(.cst (.str [110,111,116,105,99,101]))]),oo 11 (.mov (.tmp 0)),oo 12 (.call 0 0 (.cst (.fn 116)) [(.tmp 10),(.tmp 11)] [] []),oo 6 (.mov (.tmp 12))]
def Ako:List TOp:=[oo 13 (.mov (.tmp 5)),oo 14 (.mov (.tmp 13)),og 15 14 false .bool (.mov (.tmp 1)),og 16 14 false .bool (.mov (.tmp 15)),og 17 16 true .bool (.mov (.tmp 6)),og 18 14 false .bool (.pick (.tmp 16) (.tmp 17) (.cst (.bool false))),oo 19 (.pick (.tmp 14) (.cst (.bool true)) (.tmp 18)),oo 4 (.mov (.tmp 19))]
def Akk:Kp:=⟨[],[(4,false)],[],[],[]⟩
def Apq:TFd:=⟨2,[(.tmp 4,.bool)],[],(.seq (.ops Akl) (.seq (.ops Akm) (.seq (.ops Akn) (.seq (.ops Ako) (.keep Akk .ret)))))⟩
noncomputable def Hs:Ent:=⟨[.ty .str,.ty .bool],[],[.str,.bool],⟨(.ty .bool),[],[],[.bool],[],[]⟩,none,fun p=>Et p.1 p.2⟩
theorem Mn:Hs.ok Tryz.prog 97:=Ar hm Tryz.func97 (fd:=Apq) (by kernel_rfl) (Ah (l:=[(116,Qb)]) (y:=[]) ⟨Aml,trivial⟩ trivial) (by kernel_rfl) (fun p=>by kernel_rfl)
def Ahr:List TOp:=[oo 1 (.box (.tmp 0)),oo 2 (.mov (.cst (.int .i64 0))),oo 3 (.mov (.cst (.int .i64 0)))]
def Ahs:List TOp:=[oo 4 (.fld 0 (.tmp 1)),oo 5 (.load false 1 (.tmp 4)),oo 6 (.bin false .eql (.tmp 5) (.cst (.int .i64 2)))]
def Aht:List TOp:=[oo 2 (.mov (.cst (.int .i64 0))),oo 3 (.mov (.cst (.int .i64 0)))]
def A3:Kp:=⟨[],[(2,false),(3,false)],[],[],[]⟩
def Ahu:List TOp:=[oo 7 (.fld 3 (.tmp 1)),oo 8 (.load false 1 (.tmp 7))]
def Ahv:List TOp:=[oo 10 (.bin false .eql (.tmp 8) (.cst (.str [111,114]))),oo 9 (.mov (.tmp 10))]
def Ahw:List TOp:=[oo 2 (.mov (.cst (.int .i64 13))),oo 3 (.mov (.cst (.int .i64 1)))]
def Ahx:List TOp:=[oo 12 (.bin false .eql (.tmp 8) (.cst (.str [97,110,100]))),oo 11 (.mov (.tmp 12))]
def Ahy:List TOp:=[oo 2 (.mov (.cst (.int .i64 12))),oo 3 (.mov (.cst (.int .i64 2)))]
def Ahz:List TOp:=[oo 14 (.bin false .eql (.tmp 8) (.cst (.str [60]))),oo 13 (.mov (.tmp 14))]
def Adz:List TOp:=[oo 2 (.mov (.cst (.int .i64 7))),oo 3 (.mov (.cst (.int .i64 4)))]
def Ad0:List TOp:=[oo 16 (.bin false .eql (.tmp 8) (.cst (.str [60,61]))),oo 15 (.mov (.tmp 16))]
def Ad1:List TOp:=[oo 2 (.mov (.cst (.int .i64 8))),oo 3 (.mov (.cst (.int .i64 4)))]
def Ad2:List TOp:=[oo 18 (.bin false .eql (.tmp 8) (.cst (.str [61]))),oo 17 (.mov (.tmp 18))]
def Ad3:List TOp:=[oo 2 (.mov (.cst (.int .i64 9))),oo 3 (.mov (.cst (.int .i64 4)))]
def Ad4:List TOp:=[oo 20 (.bin false .eql (.tmp 8) (.cst (.str [62]))),oo 19 (.mov (.tmp 20))]
def Ad5:List TOp:=[oo 2 (.mov (.cst (.int .i64 10))),oo 3 (.mov (.cst (.int .i64 4)))]
def Ad6:List TOp:=[oo 22 (.bin false .eql (.tmp 8) (.cst (.str [62,61]))),oo 21 (.mov (.tmp 22))]
def Ad7:List TOp:=[oo 2 (.mov (.cst (.int .i64 11))),oo 3 (.mov (.cst (.int .i64 4)))]
def Ad8:List TOp:=[oo 24 (.bin false .eql (.tmp 8) (.cst (.str [43]))),oo 23 (.mov (.tmp 24))]
def Ad9:List TOp:=[oo 2 (.mov (.cst (.int .i64 3))),oo 3 (.mov (.cst (.int .i64 5)))]
def Aea:List TOp:=[oo 26 (.bin false .eql (.tmp 8) (.cst (.str [45]))),oo 25 (.mov (.tmp 26))]
def Aeb:List TOp:=[oo 2 (.mov (.cst (.int .i64 4))),oo 3 (.mov (.cst (.int .i64 5)))]
def Aec:List TOp:=[oo 28 (.bin false .eql (.tmp 8) (.cst (.str [42]))),oo 27 (.mov (.tmp 28))]
def Aed:List TOp:=[oo 2 (.mov (.cst (.int .i64 5))),oo 3 (.mov (.cst (.int .i64 6)))]
def Aee:List TOp:=[oo 30 (.bin false .eql (.tmp 8) (.cst (.str [47]))),oo 29 (.mov (.tmp 30))]
def Aef:List TOp:=[oo 2 (.mov (.cst (.int .i64 6))),oo 3 (.mov (.cst (.int .i64 6)))]
def Aeg:List TOp:=[oo 2 (.mov (.cst (.int .i64 0))),oo 3 (.mov (.cst (.int .i64 0)))]
def Am7:TFd:=⟨1,[(.tmp 2,.bool),(.tmp 3,.bool)],[],(.seq (.ops Ahr) (.seq (.seq (.ops Ahs) (.cond (.tmp 6) (.free (.seq (.ops Aht) (.keep A3 .ret))) .skip)) (.seq (.seq (.ops Ahu) (.pass 0 (.seq (.ops Ahv) (.cond (.tmp 9) (.free (.seq (.ops Ahw) (.keep A3 .ret))) (.seq (.ops Ahx) (.cond (.tmp 11) (.free (.seq (.ops Ahy) (.keep A3 .ret))) (.seq (.ops Ahz) (.cond (.tmp 13) (.free (.seq (.ops Adz) (.keep A3 .ret))) (.seq (.ops Ad0) (.cond (.tmp 15) (.free (.seq (.ops Ad1) (.keep A3 .ret))) (.seq (.ops Ad2) (.cond (.tmp 17) (.free (.seq (.ops Ad3) (.keep A3 .ret))) (.seq (.ops Ad4) (.cond (.tmp 19) (.free (.seq (.ops Ad5) (.keep A3 .ret))) (.seq (.ops Ad6) (.cond (.tmp 21) (.free (.seq (.ops Ad7) (.keep A3 .ret))) (.seq (.ops Ad8) (.cond (.tmp 23) (.free (.seq (.ops Ad9) (.keep A3 .ret))) (.seq (.ops Aea) (.cond (.tmp 25) (.free (.seq (.ops Aeb) (.keep A3 .ret))) (.seq (.ops Aec) (.cond (.tmp 27) (.free (.seq (.ops Aed) (.keep A3 .ret))) (.seq (.ops Aee) (.cond (.tmp 29) (.free (.seq (.ops Aef) (.keep A3 .ret))) .skip)))))))))))))))))))))))) (.seq (.ops Aeg) (.keep A3 .ret)))))⟩
def Mq:Ent:=⟨[.ty (.st 2)],[],[(.st 2)],⟨(.tup [(.ty (.int .i64)),(.ty (.int .i64))]),[],[],[(.int .i64),(.int .i64)],[],[]⟩,none,fun p=>D9 p⟩
theorem Afq:Mq.ok Tryz.prog 59:=Ar hm Tryz.func59 (fd:=Am7) (by kernel_rfl) (Ah (l:=[]) (y:=[]) trivial trivial) (by kernel_rfl) (fun p=>by kernel_rfl)
def Ahc:List TOp:=[oo 8 (.mov .nils)]
def Ahd:List TOp:=[oo 10 (.mov (.tmp 0)),ot 11 (.st 4) (.build [.pv (.int .i64 0),.pv (.str [])] [(0,1,(.tmp 10))]),ot 12 (.st 4) (.lit true 2 [(.tmp 11)]),oo 13 (.mov (.tmp 1)),ot 14 (.st 4) (.append 12 2 24 (.tmp 12) (.tmp 13)),oo 9 (.mov (.tmp 14))]
def Ahe:List TOp:=[oo 15 (.mov (.tmp 9)),oo 16 (.mov (.tmp 2)),ot 17 (.st 4) (.append 9 2 24 (.tmp 15) (.tmp 16)),oo 9 (.mov (.tmp 17))]
def Ahf:List TOp:=[oo 18 (.mov (.tmp 9)),oo 19 (.mov (.tmp 3)),ot 20 (.st 4) (.append 9 2 24 (.tmp 18) (.tmp 19)),oo 9 (.mov (.tmp 20))]
def Ahg:List TOp:=[oo 21 (.mov (.tmp 9)),oo 8 (.mov (.tmp 21))]
def Ahb:Kp:=⟨[.loc 9 0],[(8,true)],[],[],[]⟩
def Am5:TFd:=⟨4,[(.tmp 8,.bool)],[],(.seq (.ops Ahc) (.seq (.ops Ahd) (.seq (.ops Ahe) (.seq (.ops Ahf) (.seq (.ops Ahg) (.keep Ahb .ret))))))⟩
def Eu:Ent:=⟨[.ty (.int .i64),.ty (.sl (.st 4)),.ty (.sl (.st 4)),.ty (.sl (.st 4))],[],[(.int .i64),(.sl (.st 4)),(.sl (.st 4)),(.sl (.st 4))],⟨(.ty (.sl (.st 4))),[],[],[(.sl (.st 4))],[],[]⟩,none,fun p=>Bp p.1 p.2.1 p.2.2.1 p.2.2.2⟩
theorem Gr:Eu.ok Tryz.prog 60:=Ar hm Tryz.func60 (fd:=Am5) (by kernel_rfl) (Ah (l:=[]) (y:=[]) trivial trivial) (by kernel_rfl) (fun p=>by kernel_rfl)
def Ac9:List TOp:=[oo 6 (.mov .nils),oo 7 (.mov (.cst (.int .i64 0))),oo 8 (.mov (.cst (.bool false)))]
def Ada:List TOp:=[oo 19 (.mov (.tmp 0)),oo 20 (.mov (.tmp 1)),oo 21 (.mov (.tmp 2)),oo 22 (.call 0 0 (.cst (.fn 58)) [(.tmp 19),(.tmp 20),(.tmp 21)] [] []),oo 18 (.mov (.tmp 22)),oo 23 (.ext 0 (.tmp 18)),oo 24 (.ext 1 (.tmp 18)),oo 25 (.ext 2 (.tmp 18)),oo 9 (.mov (.tmp 23)),oo 10 (.mov (.tmp 24)),oo 11 (.mov (.tmp 25))]
def Adb:List TOp:=[oo 26 (.mov (.tmp 11)),oo 27 (.bin false .lss (.tmp 26) (.cst (.int .i64 0)))]
def Adc:List TOp:=[oo 28 (.mov (.tmp 10)),oo 6 (.mov .nils),oo 7 (.mov (.tmp 28)),oo 8 (.mov (.cst (.bool false)))]
def Dz:Kp:=⟨[],[(6,true),(7,false),(8,false)],[],[],[]⟩
def Add:List TOp:=[oo 29 (.mov (.tmp 10)),oo 30 (.mov (.tmp 0)),oo 31 (.len false (.tmp 30)),oo 32 (.bin false .lss (.tmp 29) (.tmp 31))]
def Ade:List TOp:=[oo 34 (.mov (.tmp 0)),oo 35 (.mov (.tmp 10)),oo 36 (.idx 4 (.tmp 34) (.tmp 35)),ot 37 (.st 2) (.load true 4 (.tmp 36)),oo 38 (.call 0 0 (.cst (.fn 59)) [(.tmp 37)] [] []),oo 33 (.mov (.tmp 38)),oo 39 (.ext 0 (.tmp 33)),oo 40 (.ext 1 (.tmp 33)),oo 12 (.mov (.tmp 39)),oo 13 (.mov (.tmp 40))]
def Adf:List TOp:=[oo 41 (.mov (.tmp 13)),oo 14 (.mov (.tmp 41))]
def Adg:List TOp:=[oo 42 (.mov (.tmp 13)),oo 43 (.bin false .eql (.tmp 42) (.cst (.int .i64 4)))]
def Adh:List TOp:=[oo 14 (.mov (.cst (.int .i64 5)))]
def Yo:Kp:=⟨[],[(0,false),(2,false),(9,false),(10,false),(11,false),(12,false),(13,false),(14,false)],[],[],[]⟩
def Y1:Sig:=⟨[(0,none),(2,none),(9,none),(10,none),(11,none),(12,none),(13,none),(14,some (.ty (.int .i64)))],[],[(.int .i64)],[],[]⟩
def Ys:List TOp:=[oo 44 (.mov (.tmp 13)),oo 45 (.bin false .eql (.tmp 44) (.cst (.int .i64 0))),oo 46 (.mov (.tmp 45)),og 47 46 false .bool (.mov (.tmp 13)),og 48 46 false .bool (.mov (.tmp 2)),og 49 46 false .bool (.bin false .lss (.tmp 47) (.tmp 48)),oo 50 (.pick (.tmp 46) (.cst (.bool true)) (.tmp 49)),oo 51 (.mov (.tmp 50)),og 52 51 false .bool (.mov (.tmp 11)),og 53 51 false .bool (.mov (.tmp 14)),og 54 51 false .bool (.bin false .lss (.tmp 52) (.tmp 53)),oo 55 (.pick (.tmp 51) (.cst (.bool true)) (.tmp 54))]
def Yt:List TOp:=[oo 56 (.mov (.tmp 9)),oo 57 (.mov (.tmp 10)),oo 6 (.mov (.tmp 56)),oo 7 (.mov (.tmp 57)),oo 8 (.mov (.cst (.bool true)))]
def Yu:List TOp:=[oo 59 (.mov (.tmp 0)),oo 60 (.mov (.tmp 10)),oo 61 (.bin false .add (.tmp 60) (.cst (.int .i64 1))),oo 62 (.mov (.tmp 13)),oo 63 (.bin false .add (.tmp 62) (.cst (.int .i64 1))),oo 64 (.call 0 0 (.cst (.fn 33)) [(.tmp 59),(.tmp 61),(.tmp 63)] [] []),oo 58 (.mov (.tmp 64)),oo 65 (.ext 0 (.tmp 58)),oo 66 (.ext 1 (.tmp 58)),oo 67 (.ext 2 (.tmp 58)),oo 15 (.mov (.tmp 65)),oo 16 (.mov (.tmp 66)),oo 17 (.mov (.tmp 67))]
def Yv:List TOp:=[oo 68 (.mov (.tmp 17)),oo 69 (.un .not (.tmp 68))]
def Yw:List TOp:=[oo 70 (.mov (.tmp 16)),oo 6 (.mov .nils),oo 7 (.mov (.tmp 70)),oo 8 (.mov (.cst (.bool false)))]
def Yx:List TOp:=[oo 71 (.mov (.tmp 12)),oo 72 (.mov (.tmp 9)),oo 73 (.mov (.tmp 15)),oo 74 (.call 0 0 (.cst (.fn 60)) [(.tmp 71),(.tmp 72),(.tmp 73),.nils] [] []),oo 9 (.mov (.tmp 74))]
def Yy:List TOp:=[oo 75 (.mov (.tmp 16)),oo 10 (.mov (.tmp 75))]
def Yz:List TOp:=[oo 76 (.mov (.tmp 13)),oo 11 (.mov (.tmp 76))]
def Yr:DC:=(.seq (.seq (.ops Add) (.cond (.tmp 32) .skip (.exit 0))) (.pass 1 (.seq (.ops Ade) (.seq (.ops Adf) (.seq (.seq (.ops Adg) (.join Yo Y1 (.cond (.tmp 43) (.ops Adh) .skip))) (.seq (.seq (.ops Ys) (.cond (.tmp 55) (.free (.seq (.ops Yt) (.keep Dz .ret))) .skip)) (.seq (.ops Yu) (.seq (.seq (.ops Yv) (.cond (.tmp 69) (.free (.seq (.ops Yw) (.keep Dz .ret))) .skip)) (.seq (.ops Yx) (.seq (.ops Yy) (.ops Yz)))))))))))
def Yp:Kp:=⟨[],[(0,false),(2,false),(9,false),(10,false),(11,false)],[],[],[]⟩
def Y2:Sig:=⟨[(0,none),(2,none),(9,some (.ty (.sl (.st 4)))),(10,some (.ty (.int .i64))),(11,some (.ty (.int .i64)))],[],[(.sl (.st 4)),(.int .i64),(.int .i64)],[],[]⟩
def Yq:Kp:=⟨[],[(9,false),(10,false)],[],[],[]⟩
def Y3:Sig:=⟨[(9,some (.ty (.sl (.st 4)))),(10,some (.ty (.int .i64)))],[],[(.sl (.st 4)),(.int .i64)],[],[]⟩
def Y0:List TOp:=[oo 77 (.mov (.tmp 9)),oo 78 (.mov (.tmp 10)),oo 6 (.mov (.tmp 77)),oo 7 (.mov (.tmp 78)),oo 8 (.mov (.cst (.bool true)))]
def Akp:TFd:=⟨3,[(.tmp 6,.bool),(.tmp 7,.bool),(.tmp 8,.bool)],[],(.seq (.ops Ac9) (.seq (.ops Ada) (.seq (.seq (.ops Adb) (.cond (.tmp 27) (.free (.seq (.ops Adc) (.keep Dz .ret))) .skip)) (.seq (.joinO Yq Y3 (.block 0 (.loop [0,2,9,10,11] [] Yp Y2 Yr))) (.seq (.ops Y0) (.keep Dz .ret))))))⟩
noncomputable def Cj(fuel:Nat):Ent:=⟨[.ty (.sl (.st 2)),.ty (.int .i64),.ty (.int .i64)],[],[(.sl (.st 2)),(.int .i64),(.int .i64)],⟨(.tup [(.ty (.sl (.st 4))),(.ty (.int .i64)),(.ty .bool)]),[],[],[(.sl (.st 4)),(.int .i64),.bool],[],[]⟩,none,fun p=>cashbookref15_climb fuel p.1 p.2.1 p.2.2⟩
def Adn:List TOp:=[oo 6 (.mov .nils),oo 7 (.mov (.cst (.int .i64 0))),oo 8 (.mov (.cst (.int .i64 0)))]
def Ado:List TOp:=[oo 24 (.mov (.tmp 2)),oo 25 (.bin false .eql (.tmp 24) (.cst (.int .i64 0))),oo 26 (.mov (.tmp 25)),og 27 26 true .bool (.mov (.tmp 0)),og 28 26 true .bool (.mov (.tmp 1)),og 29 26 true .bool (.call 0 0 (.cst (.fn 94)) [(.tmp 27),(.tmp 28),(.cst (.str [105,102]))] [] []),oo 30 (.pick (.tmp 26) (.tmp 29) (.cst (.bool false)))]
def Adp:List TOp:=[oo 32 (.mov (.tmp 0)),oo 33 (.mov (.tmp 1)),oo 34 (.bin false .add (.tmp 33) (.cst (.int .i64 1))),oo 35 (.call 0 0 (.cst (.fn 33)) [(.tmp 32),(.tmp 34),(.cst (.int .i64 0))] [] []),oo 31 (.mov (.tmp 35)),oo 36 (.ext 0 (.tmp 31)),oo 37 (.ext 1 (.tmp 31)),oo 38 (.ext 2 (.tmp 31)),oo 9 (.mov (.tmp 36)),oo 10 (.mov (.tmp 37)),oo 11 (.mov (.tmp 38))]
def Adq:List TOp:=[oo 39 (.mov (.tmp 11)),oo 40 (.un .not (.tmp 39)),oo 41 (.mov (.tmp 40)),og 42 41 false .bool (.mov (.tmp 0)),og 43 41 false .bool (.mov (.tmp 10)),og 44 41 false .bool (.call 0 0 (.cst (.fn 94)) [(.tmp 42),(.tmp 43),(.cst (.str [116,104,101,110]))] [] []),og 45 41 false .bool (.un .not (.tmp 44)),oo 46 (.pick (.tmp 41) (.cst (.bool true)) (.tmp 45))]
def Adr:List TOp:=[oo 47 (.mov (.tmp 10)),oo 6 (.mov .nils),oo 7 (.mov (.tmp 47)),oo 8 (.mov (.cst (.int .i64 (-1))))]
def Bh:Kp:=⟨[],[(6,true),(7,false),(8,false)],[],[],[]⟩
def Ads:List TOp:=[oo 49 (.mov (.tmp 0)),oo 50 (.mov (.tmp 10)),oo 51 (.bin false .add (.tmp 50) (.cst (.int .i64 1))),oo 52 (.call 0 0 (.cst (.fn 33)) [(.tmp 49),(.tmp 51),(.cst (.int .i64 0))] [] []),oo 48 (.mov (.tmp 52)),oo 53 (.ext 0 (.tmp 48)),oo 54 (.ext 1 (.tmp 48)),oo 55 (.ext 2 (.tmp 48)),oo 12 (.mov (.tmp 53)),oo 13 (.mov (.tmp 54)),oo 14 (.mov (.tmp 55))]
def Adt:List TOp:=[oo 56 (.mov (.tmp 14)),oo 57 (.un .not (.tmp 56)),oo 58 (.mov (.tmp 57)),og 59 58 false .bool (.mov (.tmp 0)),og 60 58 false .bool (.mov (.tmp 13)),og 61 58 false .bool (.call 0 0 (.cst (.fn 94)) [(.tmp 59),(.tmp 60),(.cst (.str [101,108,115,101]))] [] []),og 62 58 false .bool (.un .not (.tmp 61)),oo 63 (.pick (.tmp 58) (.cst (.bool true)) (.tmp 62))]
def Adu:List TOp:=[oo 64 (.mov (.tmp 13)),oo 6 (.mov .nils),oo 7 (.mov (.tmp 64)),oo 8 (.mov (.cst (.int .i64 (-1))))]
def Adv:List TOp:=[oo 66 (.mov (.tmp 0)),oo 67 (.mov (.tmp 13)),oo 68 (.bin false .add (.tmp 67) (.cst (.int .i64 1))),oo 69 (.call 0 0 (.cst (.fn 33)) [(.tmp 66),(.tmp 68),(.cst (.int .i64 0))] [] []),oo 65 (.mov (.tmp 69)),oo 70 (.ext 0 (.tmp 65)),oo 71 (.ext 1 (.tmp 65)),oo 72 (.ext 2 (.tmp 65)),oo 15 (.mov (.tmp 70)),oo 16 (.mov (.tmp 71)),oo 17 (.mov (.tmp 72))]
def Y4:List TOp:=[oo 73 (.mov (.tmp 17)),oo 74 (.un .not (.tmp 73))]
def Y5:List TOp:=[oo 75 (.mov (.tmp 16)),oo 6 (.mov .nils),oo 7 (.mov (.tmp 75)),oo 8 (.mov (.cst (.int .i64 (-1))))]
def Y6:List TOp:=[oo 76 (.mov (.tmp 9)),oo 77 (.mov (.tmp 12)),oo 78 (.mov (.tmp 15)),oo 79 (.call 0 0 (.cst (.fn 60)) [(.cst (.int .i64 15)),(.tmp 76),(.tmp 77),(.tmp 78)] [] []),oo 80 (.mov (.tmp 16)),oo 6 (.mov (.tmp 79)),oo 7 (.mov (.tmp 80)),oo 8 (.mov (.cst (.int .i64 0)))]
def Y7:List TOp:=[oo 81 (.mov (.tmp 2)),oo 82 (.bin false .leq (.tmp 81) (.cst (.int .i64 3))),oo 83 (.mov (.tmp 82)),og 84 83 true .bool (.mov (.tmp 0)),og 85 83 true .bool (.mov (.tmp 1)),og 86 83 true .bool (.call 0 0 (.cst (.fn 94)) [(.tmp 84),(.tmp 85),(.cst (.str [110,111,116]))] [] []),oo 87 (.pick (.tmp 83) (.tmp 86) (.cst (.bool false)))]
def Y8:List TOp:=[oo 89 (.mov (.tmp 0)),oo 90 (.mov (.tmp 1)),oo 91 (.bin false .add (.tmp 90) (.cst (.int .i64 1))),oo 92 (.call 0 0 (.cst (.fn 33)) [(.tmp 89),(.tmp 91),(.cst (.int .i64 3))] [] []),oo 88 (.mov (.tmp 92)),oo 93 (.ext 0 (.tmp 88)),oo 94 (.ext 1 (.tmp 88)),oo 95 (.ext 2 (.tmp 88)),oo 18 (.mov (.tmp 93)),oo 19 (.mov (.tmp 94)),oo 20 (.mov (.tmp 95))]
def Y9:List TOp:=[oo 96 (.mov (.tmp 20)),oo 97 (.un .not (.tmp 96))]
def Za:List TOp:=[oo 98 (.mov (.tmp 19)),oo 6 (.mov .nils),oo 7 (.mov (.tmp 98)),oo 8 (.mov (.cst (.int .i64 (-1))))]
def Zb:List TOp:=[oo 99 (.mov (.tmp 18)),oo 100 (.call 0 0 (.cst (.fn 60)) [(.cst (.int .i64 14)),(.tmp 99),.nils,.nils] [] []),oo 101 (.mov (.tmp 19)),oo 6 (.mov (.tmp 100)),oo 7 (.mov (.tmp 101)),oo 8 (.mov (.cst (.int .i64 3)))]
def Zc:List TOp:=[oo 102 (.mov (.tmp 0)),oo 103 (.mov (.tmp 1)),oo 104 (.call 0 0 (.cst (.fn 94)) [(.tmp 102),(.tmp 103),(.cst (.str [45]))] [] [])]
def Zd:List TOp:=[oo 106 (.mov (.tmp 0)),oo 107 (.mov (.tmp 1)),oo 108 (.bin false .add (.tmp 107) (.cst (.int .i64 1))),oo 109 (.call 0 0 (.cst (.fn 33)) [(.tmp 106),(.tmp 108),(.cst (.int .i64 7))] [] []),oo 105 (.mov (.tmp 109)),oo 110 (.ext 0 (.tmp 105)),oo 111 (.ext 1 (.tmp 105)),oo 112 (.ext 2 (.tmp 105)),oo 21 (.mov (.tmp 110)),oo 22 (.mov (.tmp 111)),oo 23 (.mov (.tmp 112))]
def Ze:List TOp:=[oo 113 (.mov (.tmp 23)),oo 114 (.un .not (.tmp 113))]
def Zf:List TOp:=[oo 115 (.mov (.tmp 22)),oo 6 (.mov .nils),oo 7 (.mov (.tmp 115)),oo 8 (.mov (.cst (.int .i64 (-1))))]
def Zg:List TOp:=[oo 116 (.mov (.tmp 21)),oo 117 (.call 0 0 (.cst (.fn 60)) [(.cst (.int .i64 2)),(.tmp 116),.nils,.nils] [] []),oo 118 (.mov (.tmp 22)),oo 6 (.mov (.tmp 117)),oo 7 (.mov (.tmp 118)),oo 8 (.mov (.cst (.int .i64 7)))]
def Zh:List TOp:=[oo 119 (.mov (.tmp 0)),oo 120 (.mov (.tmp 1)),oo 121 (.call 0 0 (.cst (.fn 95)) [(.tmp 119),(.tmp 120)] [] []),oo 122 (.ext 0 (.tmp 121)),oo 123 (.ext 1 (.tmp 121)),oo 124 (.ext 2 (.tmp 121)),oo 6 (.mov (.tmp 122)),oo 7 (.mov (.tmp 123)),oo 8 (.mov (.tmp 124))]
def Akr:TFd:=⟨3,[(.tmp 6,.bool),(.tmp 7,.bool),(.tmp 8,.bool)],[],(.seq (.ops Adn) (.seq (.seq (.ops Ado) (.cond (.tmp 30) (.free (.seq (.ops Adp) (.seq (.seq (.ops Adq) (.cond (.tmp 46) (.free (.seq (.ops Adr) (.keep Bh .ret))) .skip)) (.seq (.ops Ads) (.seq (.seq (.ops Adt) (.cond (.tmp 63) (.free (.seq (.ops Adu) (.keep Bh .ret))) .skip)) (.seq (.ops Adv) (.seq (.seq (.ops Y4) (.cond (.tmp 74) (.free (.seq (.ops Y5) (.keep Bh .ret))) .skip)) (.seq (.ops Y6) (.keep Bh .ret))))))))) .skip)) (.seq (.seq (.ops Y7) (.cond (.tmp 87) (.free (.seq (.ops Y8) (.seq (.seq (.ops Y9) (.cond (.tmp 97) (.free (.seq (.ops Za) (.keep Bh .ret))) .skip)) (.seq (.ops Zb) (.keep Bh .ret))))) .skip)) (.seq (.seq (.ops Zc) (.cond (.tmp 104) (.free (.seq (.ops Zd) (.seq (.seq (.ops Ze) (.cond (.tmp 114) (.free (.seq (.ops Zf) (.keep Bh .ret))) .skip)) (.seq (.ops Zg) (.keep Bh .ret))))) .skip)) (.seq (.ops Zh) (.keep Bh .ret))))))⟩
noncomputable def K6(fuel:Nat):Ent:=⟨[.ty (.sl (.st 2)),.ty (.int .i64),.ty (.int .i64)],[],[(.sl (.st 2)),(.int .i64),(.int .i64)],⟨(.tup [(.ty (.sl (.st 4))),(.ty (.int .i64)),(.ty (.int .i64))]),[],[],[(.sl (.st 4)),(.int .i64),(.int .i64)],[],[]⟩,none,fun p=>cashbookref15_first fuel p.1 p.2.1 p.2.2⟩
def Ud:List TOp:=[oo 4 (.mov .nils),oo 5 (.mov (.cst (.int .i64 0))),oo 6 (.mov (.cst (.int .i64 0)))]
def Ue:List TOp:=[oo 18 (.mov (.tmp 1)),oo 19 (.mov (.tmp 0)),oo 20 (.len false (.tmp 19)),oo 21 (.bin false .geq (.tmp 18) (.tmp 20))]
def Uf:List TOp:=[oo 22 (.mov (.tmp 1)),oo 4 (.mov .nils),oo 5 (.mov (.tmp 22)),oo 6 (.mov (.cst (.int .i64 (-1))))]
def A4:Kp:=⟨[],[(4,true),(5,false),(6,false)],[],[],[]⟩
def Ug:List TOp:=[oo 23 (.mov (.tmp 0)),oo 24 (.mov (.tmp 1)),oo 25 (.idx 4 (.tmp 23) (.tmp 24)),ot 26 (.st 2) (.load true 4 (.tmp 25)),oo 7 (.alloc [.pv (.int .i64 0),.pv (.int .i64 0),.pv (.int .i64 0),.pv (.str [])]),on (.store 4 (.tmp 7) (.tmp 26))]
def Uh:List TOp:=[oo 27 (.mov (.tmp 0)),oo 28 (.mov (.tmp 1)),oo 29 (.call 0 0 (.cst (.fn 94)) [(.tmp 27),(.tmp 28),(.cst (.str [40]))] [] [])]
def Ui:List TOp:=[oo 31 (.mov (.tmp 0)),oo 32 (.mov (.tmp 1)),oo 33 (.bin false .add (.tmp 32) (.cst (.int .i64 1))),oo 34 (.call 0 0 (.cst (.fn 33)) [(.tmp 31),(.tmp 33),(.cst (.int .i64 0))] [] []),oo 30 (.mov (.tmp 34)),oo 35 (.ext 0 (.tmp 30)),oo 36 (.ext 1 (.tmp 30)),oo 37 (.ext 2 (.tmp 30)),oo 8 (.mov (.tmp 35)),oo 9 (.mov (.tmp 36)),oo 10 (.mov (.tmp 37))]
def Uj:List TOp:=[oo 38 (.mov (.tmp 10)),oo 39 (.un .not (.tmp 38)),oo 40 (.mov (.tmp 39)),og 41 40 false .bool (.mov (.tmp 0)),og 42 40 false .bool (.mov (.tmp 9)),og 43 40 false .bool (.call 0 0 (.cst (.fn 94)) [(.tmp 41),(.tmp 42),(.cst (.str [41]))] [] []),og 44 40 false .bool (.un .not (.tmp 43)),oo 45 (.pick (.tmp 40) (.cst (.bool true)) (.tmp 44))]
def Uk:List TOp:=[oo 46 (.mov (.tmp 9)),oo 4 (.mov .nils),oo 5 (.mov (.tmp 46)),oo 6 (.mov (.cst (.int .i64 (-1))))]
def Ul:List TOp:=[oo 47 (.mov (.tmp 8)),oo 48 (.mov (.tmp 9)),oo 49 (.bin false .add (.tmp 48) (.cst (.int .i64 1))),oo 4 (.mov (.tmp 47)),oo 5 (.mov (.tmp 49)),oo 6 (.mov (.cst (.int .i64 8)))]
def Rn:List TOp:=[oo 50 (.mov (.tmp 0)),oo 51 (.mov (.tmp 1)),oo 52 (.call 0 0 (.cst (.fn 94)) [(.tmp 50),(.tmp 51),(.cst (.str [109,105,110]))] [] []),oo 53 (.mov (.tmp 52)),og 54 53 false .bool (.mov (.tmp 0)),og 55 53 false .bool (.mov (.tmp 1)),og 56 53 false .bool (.call 0 0 (.cst (.fn 94)) [(.tmp 54),(.tmp 55),(.cst (.str [109,97,120]))] [] []),oo 57 (.pick (.tmp 53) (.cst (.bool true)) (.tmp 56))]
def Ro:List TOp:=[oo 58 (.mov (.tmp 0)),oo 59 (.mov (.tmp 1)),oo 60 (.bin false .add (.tmp 59) (.cst (.int .i64 1))),oo 61 (.call 0 0 (.cst (.fn 94)) [(.tmp 58),(.tmp 60),(.cst (.str [40]))] [] []),oo 62 (.un .not (.tmp 61))]
def Rp:List TOp:=[oo 63 (.mov (.tmp 1)),oo 64 (.bin false .add (.tmp 63) (.cst (.int .i64 1))),oo 4 (.mov .nils),oo 5 (.mov (.tmp 64)),oo 6 (.mov (.cst (.int .i64 (-1))))]
def Rq:List TOp:=[oo 66 (.mov (.tmp 0)),oo 67 (.mov (.tmp 1)),oo 68 (.bin false .add (.tmp 67) (.cst (.int .i64 2))),oo 69 (.call 0 0 (.cst (.fn 33)) [(.tmp 66),(.tmp 68),(.cst (.int .i64 0))] [] []),oo 65 (.mov (.tmp 69)),oo 70 (.ext 0 (.tmp 65)),oo 71 (.ext 1 (.tmp 65)),oo 72 (.ext 2 (.tmp 65)),oo 11 (.mov (.tmp 70)),oo 12 (.mov (.tmp 71)),oo 13 (.mov (.tmp 72))]
def Rr:List TOp:=[oo 73 (.mov (.tmp 13)),oo 74 (.un .not (.tmp 73)),oo 75 (.mov (.tmp 74)),og 76 75 false .bool (.mov (.tmp 0)),og 77 75 false .bool (.mov (.tmp 12)),og 78 75 false .bool (.call 0 0 (.cst (.fn 94)) [(.tmp 76),(.tmp 77),(.cst (.str [44]))] [] []),og 79 75 false .bool (.un .not (.tmp 78)),oo 80 (.pick (.tmp 75) (.cst (.bool true)) (.tmp 79))]
def Rt:List TOp:=[oo 81 (.mov (.tmp 12)),oo 4 (.mov .nils),oo 5 (.mov (.tmp 81)),oo 6 (.mov (.cst (.int .i64 (-1))))]
def Ru:List TOp:=[oo 83 (.mov (.tmp 0)),oo 84 (.mov (.tmp 12)),oo 85 (.bin false .add (.tmp 84) (.cst (.int .i64 1))),oo 86 (.call 0 0 (.cst (.fn 33)) [(.tmp 83),(.tmp 85),(.cst (.int .i64 0))] [] []),oo 82 (.mov (.tmp 86)),oo 87 (.ext 0 (.tmp 82)),oo 88 (.ext 1 (.tmp 82)),oo 89 (.ext 2 (.tmp 82)),oo 14 (.mov (.tmp 87)),oo 15 (.mov (.tmp 88)),oo 16 (.mov (.tmp 89))]
def Rv:List TOp:=[oo 90 (.mov (.tmp 16)),oo 91 (.un .not (.tmp 90)),oo 92 (.mov (.tmp 91)),og 93 92 false .bool (.mov (.tmp 0)),og 94 92 false .bool (.mov (.tmp 15)),og 95 92 false .bool (.call 0 0 (.cst (.fn 94)) [(.tmp 93),(.tmp 94),(.cst (.str [41]))] [] []),og 96 92 false .bool (.un .not (.tmp 95)),oo 97 (.pick (.tmp 92) (.cst (.bool true)) (.tmp 96))]
def Rw:List TOp:=[oo 98 (.mov (.tmp 15)),oo 4 (.mov .nils),oo 5 (.mov (.tmp 98)),oo 6 (.mov (.cst (.int .i64 (-1))))]
def Rx:List TOp:=[oo 99 (.fld 3 (.tmp 7)),oo 100 (.load false 1 (.tmp 99)),oo 101 (.bin false .eql (.tmp 100) (.cst (.str [109,105,110])))]
def Ry:List TOp:=[oo 102 (.mov (.tmp 11)),oo 103 (.mov (.tmp 14)),oo 104 (.call 0 0 (.cst (.fn 60)) [(.cst (.int .i64 16)),(.tmp 102),(.tmp 103),.nils] [] []),oo 105 (.mov (.tmp 15)),oo 106 (.bin false .add (.tmp 105) (.cst (.int .i64 1))),oo 4 (.mov (.tmp 104)),oo 5 (.mov (.tmp 106)),oo 6 (.mov (.cst (.int .i64 8)))]
def Rz:List TOp:=[oo 107 (.mov (.tmp 11)),oo 108 (.mov (.tmp 14)),oo 109 (.call 0 0 (.cst (.fn 60)) [(.cst (.int .i64 17)),(.tmp 107),(.tmp 108),.nils] [] []),oo 110 (.mov (.tmp 15)),oo 111 (.bin false .add (.tmp 110) (.cst (.int .i64 1))),oo 4 (.mov (.tmp 109)),oo 5 (.mov (.tmp 111)),oo 6 (.mov (.cst (.int .i64 8)))]
def R0:List TOp:=[oo 112 (.fld 0 (.tmp 7)),oo 113 (.load false 1 (.tmp 112)),oo 114 (.bin false .eql (.tmp 113) (.cst (.int .i64 1))),oo 115 (.mov (.tmp 114)),og 116 115 true .bool (.mov (.tmp 0)),og 117 115 true .bool (.mov (.tmp 1)),og 118 115 true .bool (.bin false .add (.tmp 117) (.cst (.int .i64 1))),og 119 115 true .bool (.call 0 0 (.cst (.fn 94)) [(.tmp 116),(.tmp 118),(.cst (.str [37]))] [] []),oo 120 (.pick (.tmp 115) (.tmp 119) (.cst (.bool false)))]
def R1:List TOp:=[oo 121 (.fld 3 (.tmp 7)),oo 122 (.load false 1 (.tmp 121)),oo 123 (.bin false .add (.tmp 122) (.cst (.str [37]))),ot 124 (.st 4) (.build [.pv (.int .i64 0),.pv (.str [])] [(1,1,(.tmp 123))]),ot 125 (.st 4) (.lit false 2 [(.tmp 124)]),oo 126 (.mov (.tmp 1)),oo 127 (.bin false .add (.tmp 126) (.cst (.int .i64 2))),oo 4 (.mov (.tmp 125)),oo 5 (.mov (.tmp 127)),oo 6 (.mov (.cst (.int .i64 8)))]
def R2:List TOp:=[oo 128 (.fld 3 (.tmp 7)),oo 129 (.load false 1 (.tmp 128)),oo 130 (.call 0 0 (.cst (.fn 97)) [(.tmp 129),(.cst (.bool false))] [] []),oo 17 (.mov (.tmp 130))]
def R3:List TOp:=[oo 131 (.fld 0 (.tmp 7)),oo 132 (.load false 1 (.tmp 131)),oo 133 (.bin false .eql (.tmp 132) (.cst (.int .i64 1))),oo 134 (.mov (.tmp 133)),og 135 134 false .bool (.fld 0 (.tmp 7)),og 136 134 false .bool (.load false 1 (.tmp 135)),og 137 134 false .bool (.bin false .eql (.tmp 136) (.cst (.int .i64 0))),og 138 134 false .bool (.mov (.tmp 137)),og 139 138 true .bool (.mov (.tmp 17)),og 140 138 true .bool (.un .not (.tmp 139)),og 141 134 false .bool (.pick (.tmp 138) (.tmp 140) (.cst (.bool false))),oo 142 (.pick (.tmp 134) (.cst (.bool true)) (.tmp 141))]
def R4:List TOp:=[oo 143 (.fld 0 (.tmp 7)),oo 144 (.load false 1 (.tmp 143)),oo 145 (.bin false .sub (.cst (.int .i64 1)) (.tmp 144)),oo 146 (.fld 3 (.tmp 7)),oo 147 (.load false 1 (.tmp 146)),ot 148 (.st 4) (.build [.pv (.int .i64 0),.pv (.str [])] [(0,1,(.tmp 145)),(1,1,(.tmp 147))]),ot 149 (.st 4) (.lit false 2 [(.tmp 148)]),oo 150 (.mov (.tmp 1)),oo 151 (.bin false .add (.tmp 150) (.cst (.int .i64 1))),oo 4 (.mov (.tmp 149)),oo 5 (.mov (.tmp 151)),oo 6 (.mov (.cst (.int .i64 8)))]
def R5:List TOp:=[oo 152 (.mov (.tmp 1)),oo 4 (.mov .nils),oo 5 (.mov (.tmp 152)),oo 6 (.mov (.cst (.int .i64 (-1))))]
def Ady:TFd:=⟨2,[(.tmp 4,.bool),(.tmp 5,.bool),(.tmp 6,.bool)],[],(.seq (.ops Ud) (.seq (.seq (.ops Ue) (.cond (.tmp 21) (.free (.seq (.ops Uf) (.keep A4 .ret))) .skip)) (.seq (.ops Ug) (.seq (.seq (.ops Uh) (.cond (.tmp 29) (.free (.seq (.ops Ui) (.seq (.seq (.ops Uj) (.cond (.tmp 45) (.free (.seq (.ops Uk) (.keep A4 .ret))) .skip)) (.seq (.ops Ul) (.keep A4 .ret))))) .skip)) (.seq (.seq (.ops Rn) (.cond (.tmp 57) (.free (.seq (.seq (.ops Ro) (.cond (.tmp 62) (.free (.seq (.ops Rp) (.keep A4 .ret))) .skip)) (.seq (.ops Rq) (.seq (.seq (.ops Rr) (.cond (.tmp 80) (.free (.seq (.ops Rt) (.keep A4 .ret))) .skip)) (.seq (.ops Ru) (.seq (.seq (.ops Rv) (.cond (.tmp 97) (.free (.seq (.ops Rw) (.keep A4 .ret))) .skip)) (.seq (.seq (.ops Rx) (.cond (.tmp 101) (.free (.seq (.ops Ry) (.keep A4 .ret))) .skip)) (.seq (.ops Rz) (.keep A4 .ret))))))))) .skip)) (.seq (.seq (.ops R0) (.cond (.tmp 120) (.free (.seq (.ops R1) (.keep A4 .ret))) .skip)) (.seq (.ops R2) (.seq (.seq (.ops R3) (.cond (.tmp 142) (.free (.seq (.ops R4) (.keep A4 .ret))) .skip)) (.seq (.ops R5) (.keep A4 .ret))))))))))⟩
noncomputable def Io(fuel:Nat):Ent:=⟨[.ty (.sl (.st 2)),.ty (.int .i64)],[],[(.sl (.st 2)),(.int .i64)],⟨(.tup [(.ty (.sl (.st 4))),(.ty (.int .i64)),(.ty (.int .i64))]),[],[],[(.sl (.st 4)),(.int .i64),(.int .i64)],[],[]⟩,none,fun p=>cashbookref15_primary fuel p.1 p.2⟩
theorem Bl: ∀fuel:Nat,(Cj fuel).ok Tryz.prog 33∧(K6 fuel).ok Tryz.prog 58∧(Io fuel).ok Tryz.prog 95
 |0=>⟨(fun p r h=>(by have h:none=some r:=h;cases h)),(fun p r h=>(by have h:none=some r:=h;cases h)),(fun p r h=>(by have h:none=some r:=h;cases h))⟩
 |fuel+1=>⟨
  Ar hm Tryz.func33 (fd:=Akp) (by kernel_rfl) (Ah (l:=[(58,(K6 fuel)),(59,Mq),(33,(Cj fuel)),(60,Eu)]) (y:=[]) ⟨(Bl fuel).2.1,Afq,(Bl fuel).1,Gr,trivial⟩ trivial) (by kernel_rfl) (fun p=>by kernel_rfl),
  Ar hm Tryz.func58 (fd:=Akr) (by kernel_rfl) (Ah (l:=[(94,Ib),(33,(Cj fuel)),(60,Eu),(95,(Io fuel))]) (y:=[]) ⟨Oc,(Bl fuel).1,Gr,(Bl fuel).2.2,trivial⟩ trivial) (by kernel_rfl) (fun p=>by kernel_rfl),
  Ar hm Tryz.func95 (fd:=Ady) (by kernel_rfl) (Ah (l:=[(94,Ib),(33,(Cj fuel)),(60,Eu),(97,Hs)]) (y:=[]) ⟨Oc,(Bl fuel).1,Gr,Mn,trivial⟩ trivial) (by kernel_rfl) (fun p=>by kernel_rfl)⟩
theorem Aax(fuel:Nat):(Cj fuel).ok Tryz.prog 33:=(Bl fuel).1
def Adi:List TOp:=[oo 6 (.mov (.cst (.int .i64 0))),oo 7 (.mov (.cst (.int .i64 0))),oo 8 (.mov (.cst (.int .i64 0)))]
def Adj:List TOp:=[oo 11 (.mov (.tmp 2)),oo 12 (.mov (.tmp 1)),oo 13 (.len false (.tmp 12)),oo 14 (.bin false .lss (.tmp 11) (.tmp 13))]
def Adk:List TOp:=[oo 15 (.mov (.tmp 1)),oo 16 (.mov (.tmp 2)),oo 17 (.idx 4 (.tmp 15) (.tmp 16)),oo 18 (.fld 1 (.tmp 17)),oo 19 (.load false 1 (.tmp 18)),oo 20 (.mov (.tmp 1)),oo 21 (.mov (.tmp 2)),oo 22 (.idx 4 (.tmp 20) (.tmp 21)),oo 23 (.fld 2 (.tmp 22)),oo 24 (.load false 1 (.tmp 23)),oo 6 (.mov (.tmp 19)),oo 7 (.mov (.tmp 24)),oo 8 (.mov (.cst (.int .i64 14)))]
def Jy:Kp:=⟨[],[(6,false),(7,false),(8,false)],[],[],[]⟩
def Adl:List TOp:=[oo 26 (.mov (.tmp 0)),oo 27 (.mov (.tmp 0)),oo 28 (.len true (.tmp 27)),oo 29 (.call 0 0 (.cst (.fn 32)) [(.tmp 26),(.tmp 28)] [] []),oo 25 (.mov (.tmp 29)),oo 30 (.ext 0 (.tmp 25)),oo 31 (.ext 1 (.tmp 25)),oo 9 (.mov (.tmp 30)),oo 10 (.mov (.tmp 31))]
def Adm:List TOp:=[oo 32 (.mov (.tmp 9)),oo 33 (.mov (.tmp 10)),oo 6 (.mov (.tmp 32)),oo 7 (.mov (.tmp 33)),oo 8 (.mov (.cst (.int .i64 14)))]
def Akq:TFd:=⟨3,[(.tmp 6,.bool),(.tmp 7,.bool),(.tmp 8,.bool)],[],(.seq (.ops Adi) (.seq (.seq (.ops Adj) (.cond (.tmp 14) (.free (.seq (.draw [] Adk) (.keep Jy .ret))) .skip)) (.seq (.ops Adl) (.seq (.ops Adm) (.keep Jy .ret)))))⟩
noncomputable def K5:Ent:=⟨[.ty .str,.ty (.sl (.st 2)),.ty (.int .i64)],[],[.str,(.sl (.st 2)),(.int .i64)],⟨(.tup [(.ty (.int .i64)),(.ty (.int .i64)),(.ty (.int .i64))]),[],[],[(.int .i64),(.int .i64),(.int .i64)],[],[]⟩,none,fun p=>Ds p.1 p.2.1 p.2.2⟩
theorem Aay:K5.ok Tryz.prog 34:=Ar hm Tryz.func34 (fd:=Akq) (by kernel_rfl) (Ah (l:=[(32,Ee)]) (y:=[]) ⟨F8,trivial⟩ trivial) (by kernel_rfl) (fun p=>by kernel_rfl)
def Aj7:List TOp:=[oo 2 (.mov (.cst (.int .i64 0)))]
def Aj8:List TOp:=[oo 3 (.mov (.tmp 0)),oo 4 (.bin false .lss (.tmp 3) (.cst (.int .i64 0))),oo 5 (.mov (.tmp 4)),og 6 5 false .bool (.mov (.tmp 0)),og 7 5 false .bool (.bin false .gtr (.tmp 6) (.cst (.int .i64 17))),oo 8 (.pick (.tmp 5) (.cst (.bool true)) (.tmp 7))]
def Aj9:List TOp:=[oo 2 (.mov (.cst (.int .i64 (-1))))]
def De:Kp:=⟨[],[(2,false)],[],[],[]⟩
def Aka:List TOp:=[oo 9 (.mov (.tmp 0)),oo 10 (.bin false .lss (.tmp 9) (.cst (.int .i64 2)))]
def Akb:List TOp:=[oo 2 (.mov (.cst (.int .i64 0)))]
def Akc:List TOp:=[oo 11 (.mov (.tmp 0)),oo 12 (.bin false .eql (.tmp 11) (.cst (.int .i64 2))),oo 13 (.mov (.tmp 12)),og 14 13 false .bool (.mov (.tmp 0)),og 15 13 false .bool (.bin false .eql (.tmp 14) (.cst (.int .i64 14))),oo 16 (.pick (.tmp 13) (.cst (.bool true)) (.tmp 15))]
def Akd:List TOp:=[oo 2 (.mov (.cst (.int .i64 1)))]
def Ake:List TOp:=[oo 17 (.mov (.tmp 0)),oo 18 (.bin false .eql (.tmp 17) (.cst (.int .i64 15)))]
def Akf:List TOp:=[oo 2 (.mov (.cst (.int .i64 3)))]
def Ag1:List TOp:=[oo 2 (.mov (.cst (.int .i64 2)))]
def App:TFd:=⟨1,[(.tmp 2,.bool)],[],(.seq (.ops Aj7) (.seq (.seq (.ops Aj8) (.cond (.tmp 8) (.free (.seq (.ops Aj9) (.keep De .ret))) .skip)) (.seq (.seq (.ops Aka) (.cond (.tmp 10) (.free (.seq (.ops Akb) (.keep De .ret))) .skip)) (.seq (.seq (.ops Akc) (.cond (.tmp 16) (.free (.seq (.ops Akd) (.keep De .ret))) .skip)) (.seq (.seq (.ops Ake) (.cond (.tmp 18) (.free (.seq (.ops Akf) (.keep De .ret))) .skip)) (.seq (.ops Ag1) (.keep De .ret)))))))⟩
def Ob:Ent:=⟨[.ty (.int .i64)],[],[(.int .i64)],⟨(.ty (.int .i64)),[],[],[(.int .i64)],[],[]⟩,none,fun p=>Es p⟩
theorem Aiv:Ob.ok Tryz.prog 39:=Ar hm Tryz.func39 (fd:=App) (by kernel_rfl) (Ah (l:=[]) (y:=[]) trivial trivial) (by kernel_rfl) (fun p=>by kernel_rfl)
def Ab0:List TOp:=[oo 1 (.box (.tmp 0)),oo 2 (.mov (.cst (.bool false)))]
def Ab1:List TOp:=[oo 4 (.fld 3 (.tmp 1)),oo 5 (.load false 1 (.tmp 4)),oo 6 (.bin false .eql (.tmp 5) (.cst (.str [])))]
def Ab2:List TOp:=[oo 2 (.mov (.cst (.bool false)))]
def Ju:Kp:=⟨[],[(2,false)],[],[],[]⟩
def Ab3:List TOp:=[oo 7 (.fld 3 (.tmp 1)),oo 8 (.load false 1 (.tmp 7)),oo 9 (.call 0 0 (.cst (.fn 51)) [(.tmp 8)] [] []),oo 3 (.alloc [.pv (.int .i64 0),.pv (.int .i64 0),.pv (.int .i64 0)]),on (.store 3 (.tmp 3) (.tmp 9))]
def Ab4:List TOp:=[oo 10 (.fld 2 (.tmp 3)),oo 11 (.load false 1 (.tmp 10)),oo 12 (.bin false .eql (.tmp 11) (.cst (.int .i64 0))),oo 13 (.mov (.tmp 12)),og 14 13 true .bool (.fld 0 (.tmp 3)),og 15 13 true .bool (.load false 1 (.tmp 14)),og 16 13 true .bool (.fld 0 (.tmp 1)),og 17 13 true .bool (.load false 1 (.tmp 16)),og 18 13 true .bool (.bin false .eql (.tmp 15) (.tmp 17)),oo 19 (.pick (.tmp 13) (.tmp 18) (.cst (.bool false))),oo 20 (.mov (.tmp 19)),og 21 20 true .bool (.fld 1 (.tmp 3)),og 22 20 true .bool (.load false 1 (.tmp 21)),og 23 20 true .bool (.fld 3 (.tmp 1)),og 24 20 true .bool (.load false 1 (.tmp 23)),og 25 20 true .bool (.len true (.tmp 24)),og 26 20 true .bool (.bin false .eql (.tmp 22) (.tmp 25)),oo 27 (.pick (.tmp 20) (.tmp 26) (.cst (.bool false))),oo 2 (.mov (.tmp 27))]
def Aj3:TFd:=⟨1,[(.tmp 2,.bool)],[],(.seq (.ops Ab0) (.seq (.seq (.ops Ab1) (.cond (.tmp 6) (.free (.seq (.ops Ab2) (.keep Ju .ret))) .skip)) (.seq (.ops Ab3) (.seq (.ops Ab4) (.keep Ju .ret)))))⟩
noncomputable def Gp:Ent:=⟨[.ty (.st 2)],[],[(.st 2)],⟨(.ty .bool),[],[],[.bool],[],[]⟩,none,fun p=>Dp p⟩
theorem I7:Gp.ok Tryz.prog 105:=Ar hm Tryz.func105 (fd:=Aj3) (by kernel_rfl) (Ah (l:=[(51,G5)]) (y:=[]) ⟨K3,trivial⟩ trivial) (by kernel_rfl) (fun p=>by kernel_rfl)
def Zj:List TOp:=[oo 2 (.mov (.cst (.bool false)))]
def Zk:List TOp:=[oo 3 (.mov (.tmp 0)),ot 4 (.st 2) (.build [.pv (.int .i64 0),.pv (.int .i64 0),.pv (.int .i64 0),.pv (.str [])] [(0,1,(.cst (.int .i64 1))),(3,1,(.tmp 3))]),oo 5 (.call 0 0 (.cst (.fn 105)) [(.tmp 4)] [] []),oo 2 (.mov (.tmp 5))]
def Zi:Kp:=⟨[],[(2,false)],[],[],[]⟩
def Ahq:TFd:=⟨1,[(.tmp 2,.bool)],[],(.seq (.ops Zj) (.seq (.ops Zk) (.keep Zi .ret)))⟩
noncomputable def Jc:Ent:=⟨[.ty .str],[],[.str],⟨(.ty .bool),[],[],[.bool],[],[]⟩,none,fun p=>Ew p⟩
theorem V7:Jc.ok Tryz.prog 80:=Ar hm Tryz.func80 (fd:=Ahq) (by kernel_rfl) (Ah (l:=[(105,Gp)]) (y:=[]) ⟨I7,trivial⟩ trivial) (by kernel_rfl) (fun p=>by kernel_rfl)
def Ah1:List TOp:=[oo 4 (.mov (.cst (.bool false)))]
def Ah2:List TOp:=[oo 7 (.mov (.tmp 0)),ot 8 (.st 2) (.build [.pv (.int .i64 0),.pv (.int .i64 0),.pv (.int .i64 0),.pv (.str [])] [(0,1,(.cst (.int .i64 0))),(3,1,(.tmp 7))]),oo 9 (.call 0 0 (.cst (.fn 105)) [(.tmp 8)] [] []),oo 5 (.mov (.tmp 9))]
def Ah3:List TOp:=[oo 10 (.mov (.tmp 0)),oo 11 (.mov (.tmp 1)),oo 12 (.call 0 0 (.cst (.fn 97)) [(.tmp 10),(.tmp 11)] [] []),oo 6 (.mov (.tmp 12))]
def Ah4:List TOp:=[oo 13 (.mov (.tmp 5)),oo 14 (.mov (.tmp 13)),og 15 14 true .bool (.mov (.tmp 6)),og 16 14 true .bool (.un .not (.tmp 15)),oo 17 (.pick (.tmp 14) (.tmp 16) (.cst (.bool false))),oo 4 (.mov (.tmp 17))]
def Ah0:Kp:=⟨[],[(4,false)],[],[],[]⟩
def Am8:TFd:=⟨2,[(.tmp 4,.bool)],[],(.seq (.ops Ah1) (.seq (.ops Ah2) (.seq (.ops Ah3) (.seq (.ops Ah4) (.keep Ah0 .ret)))))⟩
noncomputable def Mr:Ent:=⟨[.ty .str,.ty .bool],[],[.str,.bool],⟨(.ty .bool),[],[],[.bool],[],[]⟩,none,fun p=>Gd p.1 p.2⟩
theorem Afr:Mr.ok Tryz.prog 79:=Ar hm Tryz.func79 (fd:=Am8) (by kernel_rfl) (Ah (l:=[(105,Gp),(97,Hs)]) (y:=[]) ⟨I7,Mn,trivial⟩ trivial) (by kernel_rfl) (fun p=>by kernel_rfl)
def Ahi:List TOp:=[oo 1 (.box (.tmp 0)),oo 2 (.mov (.cst (.bool false)))]
def Ahj:List TOp:=[oo 4 (.fld 0 (.tmp 1)),oo 5 (.load false 1 (.tmp 4)),oo 6 (.bin false .eql (.tmp 5) (.cst (.int .i64 0)))]
def Ahk:List TOp:=[oo 7 (.fld 1 (.tmp 1)),oo 8 (.load false 1 (.tmp 7)),oo 9 (.len true (.tmp 8)),oo 3 (.mov (.tmp 9))]
def Ahl:List TOp:=[oo 10 (.mov (.tmp 3)),oo 11 (.bin false .gtr (.tmp 10) (.cst (.int .i64 0))),oo 12 (.mov (.tmp 11)),og 13 12 true .bool (.fld 1 (.tmp 1)),og 14 12 true .bool (.load false 1 (.tmp 13)),og 15 12 true .bool (.mov (.tmp 3)),og 16 12 true .bool (.bin false .sub (.tmp 15) (.cst (.int .i64 1))),og 17 12 true .bool (.sidx (.tmp 14) (.tmp 16)),og 18 12 true .bool (.bin false .eql (.tmp 17) (.cst (.int .u8 37))),oo 19 (.pick (.tmp 12) (.tmp 18) (.cst (.bool false)))]
def Ahm:List TOp:=[oo 20 (.mov (.tmp 3)),oo 21 (.bin false .sub (.tmp 20) (.cst (.int .i64 1))),oo 3 (.mov (.tmp 21))]
def Ahh:Kp:=⟨[],[(1,false),(3,false)],[(.loc 1 0,false)],[],[]⟩
def Ahp:Sig:=⟨[(1,some (.ptr (.loc 1 0) 0)),(3,some (.ty (.int .i64)))],[(.loc 1 0,(.box [none,none]))],[(.int .i64)],[],[]⟩
def Ahn:List TOp:=[oo 22 (.fld 1 (.tmp 1)),oo 23 (.load false 1 (.tmp 22)),oo 24 (.mov (.tmp 3)),oo 25 (.slc true 0 (.tmp 23) none (some (.tmp 24))),oo 26 (.call 0 0 (.cst (.fn 80)) [(.tmp 25)] [] []),oo 2 (.mov (.tmp 26))]
def Gt:Kp:=⟨[],[(2,false)],[],[],[]⟩
def Aho:List TOp:=[oo 27 (.fld 0 (.tmp 1)),oo 28 (.load false 1 (.tmp 27)),oo 29 (.bin false .eql (.tmp 28) (.cst (.int .i64 1)))]
def Adw:List TOp:=[oo 30 (.fld 1 (.tmp 1)),oo 31 (.load false 1 (.tmp 30)),oo 32 (.call 0 0 (.cst (.fn 79)) [(.tmp 31),(.cst (.bool false))] [] []),oo 2 (.mov (.tmp 32))]
def Adx:List TOp:=[oo 33 (.fld 1 (.tmp 1)),oo 34 (.load false 1 (.tmp 33)),oo 35 (.bin false .eql (.tmp 34) (.cst (.str []))),oo 2 (.mov (.tmp 35))]
def Am6:TFd:=⟨1,[(.tmp 2,.bool)],[],(.seq (.ops Ahi) (.seq (.seq (.ops Ahj) (.cond (.tmp 6) (.free (.seq (.ops Ahk) (.seq (.seq (.ops Ahl) (.join Ahh Ahp (.cond (.tmp 19) (.ops Ahm) .skip))) (.seq (.ops Ahn) (.keep Gt .ret))))) .skip)) (.seq (.seq (.ops Aho) (.cond (.tmp 29) (.free (.seq (.ops Adw) (.keep Gt .ret))) .skip)) (.seq (.ops Adx) (.keep Gt .ret)))))⟩
noncomputable def Mp:Ent:=⟨[.ty (.st 4)],[],[(.st 4)],⟨(.ty .bool),[],[],[.bool],[],[]⟩,none,fun p=>D8 p⟩
theorem Afp:Mp.ok Tryz.prog 47:=Ar hm Tryz.func47 (fd:=Am6) (by kernel_rfl) (Ah (l:=[(80,Jc),(79,Mr)]) (y:=[]) ⟨V7,Afr,trivial⟩ trivial) (by kernel_rfl) (fun p=>by kernel_rfl)
def Acn:List TOp:=[oo 2 (.mov (.cst (.int .i64 0)))]
def Aco:List TOp:=[oo 9 (.mov (.tmp 0)),oo 10 (.len false (.tmp 9)),oo 11 (.bin false .gtr (.tmp 10) (.cst (.int .i64 200)))]
def Acp:List TOp:=[oo 2 (.mov (.cst (.int .i64 0)))]
def Dy:Kp:=⟨[],[(2,false)],[],[],[]⟩
def Acq:List TOp:=[oo 3 (.mov .nils)]
def Acr:List TOp:=[oo 12 (.mov (.tmp 0)),oo 13 (.len false (.tmp 12)),oo 14 (.bin false .sub (.tmp 13) (.cst (.int .i64 1))),oo 4 (.mov (.tmp 14))]
def Acs:List TOp:=[oo 15 (.mov (.tmp 4)),oo 16 (.bin false .geq (.tmp 15) (.cst (.int .i64 0)))]
def Acu:List TOp:=[oo 19 (.mov (.tmp 0)),oo 20 (.mov (.tmp 4)),oo 21 (.idx 2 (.tmp 19) (.tmp 20)),oo 22 (.fld 0 (.tmp 21)),oo 23 (.load false 1 (.tmp 22)),oo 24 (.call 0 0 (.cst (.fn 39)) [(.tmp 23)] [] []),oo 5 (.mov (.tmp 24))]
def Acv:List TOp:=[oo 25 (.mov (.tmp 0)),oo 26 (.mov (.tmp 4)),oo 27 (.idx 2 (.tmp 25) (.tmp 26)),ot 28 (.st 4) (.load true 2 (.tmp 27)),oo 29 (.call 0 0 (.cst (.fn 47)) [(.tmp 28)] [] []),oo 6 (.mov (.tmp 29))]
def Acw:List TOp:=[oo 30 (.mov (.tmp 5)),oo 31 (.bin false .lss (.tmp 30) (.cst (.int .i64 0))),oo 32 (.mov (.tmp 31)),og 33 32 false .bool (.mov (.tmp 6)),og 34 32 false .bool (.un .not (.tmp 33)),oo 35 (.pick (.tmp 32) (.cst (.bool true)) (.tmp 34)),oo 36 (.mov (.tmp 35)),og 37 36 false .bool (.mov (.tmp 5)),og 38 36 false .bool (.mov (.tmp 3)),og 39 36 false .bool (.len false (.tmp 38)),og 40 36 false .bool (.bin false .gtr (.tmp 37) (.tmp 39)),oo 41 (.pick (.tmp 36) (.cst (.bool true)) (.tmp 40))]
def X4:List TOp:=[oo 2 (.mov (.cst (.int .i64 0)))]
def X5:List TOp:=[oo 7 (.mov (.cst (.int .i64 0)))]
def X6:List TOp:=[oo 8 (.mov (.cst (.int .i64 0)))]
def X7:List TOp:=[oo 42 (.mov (.tmp 8)),oo 43 (.mov (.tmp 5)),oo 44 (.bin false .lss (.tmp 42) (.tmp 43))]
def X8:List TOp:=[oo 47 (.mov (.tmp 7)),oo 48 (.mov (.tmp 3)),oo 49 (.mov (.tmp 3)),oo 50 (.len false (.tmp 49)),oo 51 (.bin false .sub (.tmp 50) (.cst (.int .i64 1))),oo 52 (.mov (.tmp 8)),oo 53 (.bin false .sub (.tmp 51) (.tmp 52)),oo 54 (.idx 1 (.tmp 48) (.tmp 53)),oo 55 (.load false 1 (.tmp 54)),oo 56 (.mm true (.tmp 47) [(.tmp 55)]),oo 7 (.mov (.tmp 56))]
def X9:List TOp:=[oo 45 (.mov (.tmp 8)),oo 46 (.bin false .add (.tmp 45) (.cst (.int .i64 1))),oo 8 (.mov (.tmp 46))]
def X2:DC:=(.seq (.seq (.ops X7) (.cond (.tmp 44) .skip (.exit 2))) (.seq (.pass 3 (.ops X8)) (.ops X9)))
def Xy:Kp:=⟨[],[(0,false),(3,false),(4,false),(5,false),(7,false),(8,false)],[],[],[]⟩
def Yf:Sig:=⟨[(0,none),(3,none),(4,none),(5,none),(7,some (.ty (.int .i64))),(8,some (.ty (.int .i64)))],[],[(.int .i64),(.int .i64)],[],[]⟩
def Xz:Kp:=⟨[],[(0,false),(3,false),(4,false),(5,false),(7,false)],[],[],[]⟩
def Yg:Sig:=⟨[(0,none),(3,none),(4,none),(5,none),(7,some (.ty (.int .i64)))],[],[(.int .i64)],[],[]⟩
def Ya:List TOp:=[ot 57 (.int .i64) (.lit false 1 []),oo 58 (.mov (.tmp 3)),oo 59 (.mov (.tmp 3)),oo 60 (.len false (.tmp 59)),oo 61 (.mov (.tmp 5)),oo 62 (.bin false .sub (.tmp 60) (.tmp 61)),ot 63 (.int .i64) (.slc false 1 (.tmp 58) none (some (.tmp 62))),ot 64 (.int .i64) (.append 57 1 8 (.tmp 57) (.tmp 63)),oo 65 (.mov (.tmp 7)),oo 66 (.bin false .add (.tmp 65) (.cst (.int .i64 1))),ot 67 (.int .i64) (.lit false 1 [(.tmp 66)]),ot 68 (.int .i64) (.append 64 1 8 (.tmp 64) (.tmp 67)),oo 3 (.mov (.tmp 68))]
def Yb:List TOp:=[oo 17 (.mov (.tmp 4)),oo 18 (.bin false .sub (.tmp 17) (.cst (.int .i64 1))),oo 4 (.mov (.tmp 18))]
def X3:DC:=(.seq (.seq (.ops Acs) (.cond (.tmp 16) .skip (.exit 0))) (.seq (.pass 1 (.seq (.ops Acu) (.seq (.ops Acv) (.seq (.seq (.ops Acw) (.cond (.tmp 41) (.free (.seq (.ops X4) (.keep Dy .ret))) .skip)) (.seq (.ops X5) (.seq (.seq (.ops X6) (.join Xz Yg (.block 2 (.loop [0,3,4,5,7,8] [] Xy Yf X2)))) (.ops Ya))))))) (.ops Yb)))
def X0:Kp:=⟨[.loc 64 0],[(0,false),(3,true),(4,false)],[],[],[]⟩
def Yh:Sig:=⟨[(0,none),(3,some (.ty (.sl (.int .i64)))),(4,some (.ty (.int .i64)))],[],[(.sl (.int .i64)),(.int .i64)],[],[]⟩
def X1:Kp:=⟨[],[(3,false)],[],[],[]⟩
def Yi:Sig:=⟨[(3,some (.ty (.sl (.int .i64))))],[],[(.sl (.int .i64))],[],[]⟩
def Yc:List TOp:=[oo 69 (.mov (.tmp 3)),oo 70 (.len false (.tmp 69)),oo 71 (.bin false .neq (.tmp 70) (.cst (.int .i64 1))),oo 72 (.mov (.tmp 71)),og 73 72 false .bool (.mov (.tmp 3)),og 74 72 false .bool (.idx 1 (.tmp 73) (.cst (.int .i64 0))),og 75 72 false .bool (.load false 1 (.tmp 74)),og 76 72 false .bool (.bin false .gtr (.tmp 75) (.cst (.int .i64 24))),oo 77 (.pick (.tmp 72) (.cst (.bool true)) (.tmp 76))]
def Yd:List TOp:=[oo 2 (.mov (.cst (.int .i64 0)))]
def Ye:List TOp:=[oo 78 (.mov (.tmp 3)),oo 79 (.idx 1 (.tmp 78) (.cst (.int .i64 0))),oo 80 (.load false 1 (.tmp 79)),oo 2 (.mov (.tmp 80))]
def Aj6:TFd:=⟨1,[(.tmp 2,.bool)],[],(.seq (.ops Acn) (.seq (.seq (.ops Aco) (.cond (.tmp 11) (.free (.seq (.ops Acp) (.keep Dy .ret))) .skip)) (.seq (.ops Acq) (.seq (.seq (.ops Acr) (.joinO X1 Yi (.block 0 (.loop [0,3,4] [] X0 Yh X3)))) (.seq (.seq (.ops Yc) (.cond (.tmp 77) (.free (.seq (.ops Yd) (.keep Dy .ret))) .skip)) (.seq (.ops Ye) (.keep Dy .ret)))))))⟩
noncomputable def K4:Ent:=⟨[.ty (.sl (.st 4))],[],[(.sl (.st 4))],⟨(.ty (.int .i64)),[],[],[(.int .i64)],[],[]⟩,none,fun p=>Dq p⟩
theorem Aaw:K4.ok Tryz.prog 22:=Ar hm Tryz.func22 (fd:=Aj6) (by kernel_rfl) (Ah (l:=[(39,Ob),(47,Mp)]) (y:=[]) ⟨Aiv,Afp,trivial⟩ trivial) (by kernel_rfl) (fun p=>by kernel_rfl)
def Ag2:List TOp:=[oo 2 (.mov .nils),oo 3 (.mov (.cst (.int .i64 0))),oo 4 (.mov (.cst (.int .i64 0))),oo 5 (.mov (.cst (.int .i64 0)))]
def Ag3:List TOp:=[oo 18 (.mov (.tmp 0)),oo 19 (.call 0 0 (.cst (.fn 26)) [(.tmp 18)] [] []),oo 17 (.mov (.tmp 19)),oo 20 (.ext 0 (.tmp 17)),oo 21 (.ext 1 (.tmp 17)),oo 22 (.ext 2 (.tmp 17)),oo 6 (.mov (.tmp 20)),oo 7 (.mov (.tmp 21)),oo 8 (.mov (.tmp 22))]
def Ag4:List TOp:=[oo 23 (.mov (.tmp 8)),oo 24 (.bin false .neq (.tmp 23) (.cst (.int .i64 0)))]
def Ag5:List TOp:=[oo 26 (.mov (.tmp 0)),oo 27 (.mov (.tmp 7)),oo 28 (.call 0 0 (.cst (.fn 32)) [(.tmp 26),(.tmp 27)] [] []),oo 25 (.mov (.tmp 28)),oo 29 (.ext 0 (.tmp 25)),oo 30 (.ext 1 (.tmp 25)),oo 9 (.mov (.tmp 29)),oo 10 (.mov (.tmp 30))]
def Ag6:List TOp:=[oo 31 (.mov (.tmp 9)),oo 32 (.mov (.tmp 10)),oo 33 (.mov (.tmp 8)),oo 2 (.mov .nils),oo 3 (.mov (.tmp 31)),oo 4 (.mov (.tmp 32)),oo 5 (.mov (.tmp 33))]
def Eh:Kp:=⟨[],[(2,true),(3,false),(4,false),(5,false)],[],[],[]⟩
def Ag7:List TOp:=[oo 35 (.mov (.tmp 6)),oo 36 (.call 0 0 (.cst (.fn 33)) [(.tmp 35),(.cst (.int .i64 0)),(.cst (.int .i64 0))] [] []),oo 34 (.mov (.tmp 36)),oo 37 (.ext 0 (.tmp 34)),oo 38 (.ext 1 (.tmp 34)),oo 39 (.ext 2 (.tmp 34)),oo 11 (.mov (.tmp 37)),oo 12 (.mov (.tmp 38)),oo 13 (.mov (.tmp 39))]
def Ag8:List TOp:=[oo 40 (.mov (.tmp 13)),oo 41 (.un .not (.tmp 40)),oo 42 (.mov (.tmp 41)),og 43 42 false .bool (.mov (.tmp 12)),og 44 42 false .bool (.mov (.tmp 6)),og 45 42 false .bool (.len false (.tmp 44)),og 46 42 false .bool (.bin false .lss (.tmp 43) (.tmp 45)),oo 47 (.pick (.tmp 42) (.cst (.bool true)) (.tmp 46))]
def Ag9:List TOp:=[oo 49 (.mov (.tmp 0)),oo 50 (.mov (.tmp 6)),oo 51 (.mov (.tmp 12)),oo 52 (.call 0 0 (.cst (.fn 34)) [(.tmp 49),(.tmp 50),(.tmp 51)] [] []),oo 48 (.mov (.tmp 52)),oo 53 (.ext 0 (.tmp 48)),oo 54 (.ext 1 (.tmp 48)),oo 55 (.ext 2 (.tmp 48)),oo 14 (.mov (.tmp 53)),oo 15 (.mov (.tmp 54)),oo 16 (.mov (.tmp 55))]
def Aha:List TOp:=[oo 56 (.mov (.tmp 14)),oo 57 (.mov (.tmp 15)),oo 58 (.mov (.tmp 16)),oo 2 (.mov .nils),oo 3 (.mov (.tmp 56)),oo 4 (.mov (.tmp 57)),oo 5 (.mov (.tmp 58))]
def Ac6:List TOp:=[oo 59 (.mov (.tmp 11)),oo 60 (.call 0 0 (.cst (.fn 22)) [(.tmp 59)] [] []),oo 61 (.bin false .eql (.tmp 60) (.cst (.int .i64 0)))]
def Ac7:List TOp:=[oo 2 (.mov .nils),oo 3 (.mov (.cst (.int .i64 1))),oo 4 (.mov (.cst (.int .i64 1))),oo 5 (.mov (.cst (.int .i64 4)))]
def Ac8:List TOp:=[oo 62 (.mov (.tmp 11)),oo 2 (.mov (.tmp 62)),oo 3 (.mov (.cst (.int .i64 0))),oo 4 (.mov (.cst (.int .i64 0))),oo 5 (.mov (.cst (.int .i64 0)))]
def Am1:TFd:=⟨1,[(.tmp 2,.bool),(.tmp 3,.bool),(.tmp 4,.bool),(.tmp 5,.bool)],[],(.seq (.ops Ag2) (.seq (.ops Ag3) (.seq (.seq (.ops Ag4) (.cond (.tmp 24) (.free (.seq (.ops Ag5) (.seq (.ops Ag6) (.keep Eh .ret)))) .skip)) (.seq (.ops Ag7) (.seq (.seq (.ops Ag8) (.cond (.tmp 47) (.free (.seq (.ops Ag9) (.seq (.ops Aha) (.keep Eh .ret)))) .skip)) (.seq (.seq (.ops Ac6) (.cond (.tmp 61) (.free (.seq (.ops Ac7) (.keep Eh .ret))) .skip)) (.seq (.ops Ac8) (.keep Eh .ret))))))))⟩
noncomputable def Mo:Ent:=⟨[.ty .str],[],[.str],⟨(.tup [(.ty (.sl (.st 4))),(.ty (.int .i64)),(.ty (.int .i64)),(.ty (.int .i64))]),[],[],[(.sl (.st 4)),(.int .i64),(.int .i64),(.int .i64)],[],[]⟩,none,fun p=>Gc p⟩
theorem Afo:Mo.ok Tryz.prog 10:=Ar hm Tryz.func10 (fd:=Am1) (by kernel_rfl) (Ah (l:=[(26,Oa),(32,Ee),(33,(Cj 100000)),(34,K5),(22,K4)]) (y:=[]) ⟨Aiu,F8,(Aax 100000),Aay,Aaw,trivial⟩ trivial) (by kernel_rfl) (fun p=>by kernel_rfl)
def Oz:List TOp:=[oo 2 (.mov (.cst (.bool false)))]
def O0:List TOp:=[oo 12 (.mov (.tmp 0)),oo 13 (.len true (.tmp 12)),oo 14 (.bin false .gtr (.tmp 13) (.cst (.int .i64 9000)))]
def O1:List TOp:=[oo 15 (.call 0 0 (.cst (.fn 8)) [] [] []),oo 2 (.mov (.tmp 15))]
def G0:Kp:=⟨[],[(2,false)],[],[],[]⟩
def O2:List TOp:=[oo 17 (.mov (.tmp 0)),oo 18 (.call 0 0 (.cst (.fn 9)) [(.tmp 17)] [] []),oo 16 (.mov (.tmp 18)),oo 19 (.ext 0 (.tmp 16)),oo 20 (.ext 1 (.tmp 16)),oo 21 (.ext 2 (.tmp 16)),oo 22 (.ext 3 (.tmp 16)),oo 3 (.mov (.tmp 19)),oo 4 (.mov (.tmp 20)),oo 5 (.mov (.tmp 21)),oo 6 (.mov (.tmp 22))]
def O3:List TOp:=[oo 24 (.mov (.tmp 0)),oo 25 (.call 0 0 (.cst (.fn 10)) [(.tmp 24)] [] []),oo 23 (.mov (.tmp 25)),oo 26 (.ext 0 (.tmp 23)),oo 27 (.ext 1 (.tmp 23)),oo 28 (.ext 2 (.tmp 23)),oo 29 (.ext 3 (.tmp 23)),oo 7 (.mov (.tmp 26)),oo 8 (.mov (.tmp 27)),oo 9 (.mov (.tmp 28)),oo 10 (.mov (.tmp 29))]
def O4:List TOp:=[oo 30 (.mov (.tmp 3)),oo 31 (.mov (.tmp 7)),oo 32 (.call 0 0 (.cst (.fn 11)) [(.tmp 30),(.tmp 31)] [] []),oo 11 (.mov (.tmp 32))]
def O5:List TOp:=[oo 33 (.call 0 0 (.cst (.fn 8)) [] [] []),oo 34 (.mov (.tmp 33)),og 35 34 true .bool (.mov (.tmp 11)),oo 36 (.pick (.tmp 34) (.tmp 35) (.cst (.bool false))),oo 37 (.mov (.tmp 36)),og 38 37 true .bool (.mov (.tmp 4)),og 39 37 true .bool (.mov (.tmp 8)),og 40 37 true .bool (.bin false .eql (.tmp 38) (.tmp 39)),oo 41 (.pick (.tmp 37) (.tmp 40) (.cst (.bool false))),oo 42 (.mov (.tmp 41)),og 43 42 true .bool (.mov (.tmp 5)),og 44 42 true .bool (.mov (.tmp 9)),og 45 42 true .bool (.bin false .eql (.tmp 43) (.tmp 44)),oo 46 (.pick (.tmp 42) (.tmp 45) (.cst (.bool false))),oo 47 (.mov (.tmp 46)),og 48 47 true .bool (.mov (.tmp 6)),og 49 47 true .bool (.mov (.tmp 10)),og 50 47 true .bool (.bin false .eql (.tmp 48) (.tmp 49)),oo 51 (.pick (.tmp 47) (.tmp 50) (.cst (.bool false))),oo 2 (.mov (.tmp 51))]
def Rm:TFd:=⟨1,[(.tmp 2,.bool)],[],(.seq (.ops Oz) (.seq (.seq (.ops O0) (.cond (.tmp 14) (.free (.seq (.ops O1) (.keep G0 .ret))) .skip)) (.seq (.ops O2) (.seq (.ops O3) (.seq (.ops O4) (.seq (.ops O5) (.keep G0 .ret)))))))⟩
noncomputable def Qa:Ent:=⟨[.ty .str],[],[.str],⟨(.ty .bool),[],[],[.bool],[],[]⟩,none,fun p=>C8 p⟩
theorem On:Qa.ok Tryz.prog 3:=Ar hm Tryz.func3 (fd:=Rm) (by kernel_rfl) (Ah (l:=[(8,Kz),(9,Abc),(10,Mo),(11,Gq)]) (y:=[]) ⟨Aau,Aoi,Afo,Jb,trivial⟩ trivial) (by kernel_rfl) (fun p=>by kernel_rfl)
end Go.Av.G
end
section
set_option linter.unusedVariables false
set_option linter.unusedSimpArgs false
set_option maxRecDepth 100000
set_option maxHeartbeats 8000000
namespace Go.Av.G
open Go Go.Av Go.Proofs
end Go.Av.G
end
section
set_option linter.unusedVariables false
set_option linter.unusedSimpArgs false
set_option maxRecDepth 4000
set_option maxHeartbeats 4000000
namespace Go.Av.G
open Go Go.Av Go.Proofs
abbrev Nd:=Aa
abbrev Tk:=Ac
abbrev By:=List UInt8
def sIf:By:=[105,102]
def Aou:By:=[116,104,101,110]
def Alj:By:=[101,108,115,101]
def Bea:By:=[97,110,100]
def sOr:By:=[111,114]
def Alk:By:=[110,111,116]
def Aik:By:=[109,105,110]
def Awp:By:=[109,97,120]
def isT(s:By)(ts:List Tk):Bool:=match ts with
 |[]=>false
 |t::_=>decide (t.Ae≠2∧t.Af=s)
def Aqm(s:By):Int×Nat:=
 if s=sOr then(13,1) else if s=Bea then(12,2) else if s=[60] then(7,4) else if s=[60,61] then(8,4)
 else if s=[61] then(9,4) else if s=[62] then(10,4) else if s=[62,61] then(11,4)
 else if s=[43] then(3,5) else if s=[45] then(4,5) else if s=[42] then(5,6) else if s=[47] then(6,6) else(0,0)
def Bf(t:Tk):Int×Nat:=if t.Ae=2 then(0,0) else Aqm t.Af
def Bts:List By:=[sIf,Aou,Alj,Bea,sOr,Alk,Aik,Awp]
def Btt:List By:=[[112,114,111,100,117,99,116],[98,97,115,105,115],[112,101,114,105,111,100],[116,105,101,114,115],[102,101,101],[109,105,110,105,109,117,109],[111,118,101,114,100,114,97,102,116],[110,111,116,105,99,101]]
def Atk(s:By)(p:Bool):Bool:=Bts.contains s||(p&&Btt.contains s)
abbrev Rs(α:Type):=Option α×List Tk
def bnd{α β:Type}(r:Rs α)(k:α→List Tk→Rs β):Rs β:=match r with
 |(some a,i)=>k a i
 |(none,i)=>(none,i)
def Hk{β:Type}(s:By)(ts:List Tk)(k:List Tk→Rs β):Rs β:=if isT s ts=true then k ts.tail else(none,ts)
abbrev Aw4:=List Tk→Nat→Rs (List Nd)
def Dg(rec:Aw4)(ts:List Tk):Rs (List Nd):=match ts with
 |[]=>(none,[])
 |t::r=>
  if isT [40] (t::r)=true then bnd (rec r 0) fun a i=>Hk [41] i fun j=>(some a,j)
  else if (isT Aik (t::r)||isT Awp (t::r))=true then
   Hk [40] r fun r2=>bnd (rec r2 0) fun a i=>Hk [44] i fun i2=>bnd (rec i2 0) fun b j=>Hk [41] j fun j2=>
    (some (⟨if t.Af=Aik then 16 else 17,[]⟩::(a++b)),j2)
  else if t.Ae=1 then
   if isT [37] r=true then(some [⟨0,t.Af++[37]⟩],r.tail) else(some [⟨0,t.Af⟩],r)
  else if t.Ae=0∧Atk t.Af false=false then(some [⟨1,t.Af⟩],r)
  else(none,t::r)
def B9(rec:Aw4)(ts:List Tk)(n:Nat):Rs (List Nd×Nat):=
 if n=0∧isT sIf ts=true then
  bnd (rec ts.tail 0) fun a i=>Hk Aou i fun i2=>bnd (rec i2 0) fun b j=>Hk Alj j fun j2=>bnd (rec j2 0) fun c k=>
   (some (⟨15,[]⟩::(a++b++c),0),k)
 else if n≤3∧isT Alk ts=true then bnd (rec ts.tail 3) fun a i=>(some (⟨14,[]⟩::a,3),i)
 else if isT [45] ts=true then bnd (rec ts.tail 7) fun a i=>(some (⟨2,[]⟩::a,7),i)
 else bnd (Dg rec ts) fun a i=>(some (a,8),i)
def Rl(m:Nat):Nat:=if m=4 then 5 else m
def Cw(rec:Aw4)(n:Nat):Nat→List Nd→Nat→List Tk→Rs (List Nd×Nat)
 |_,out,own,[]=>(some (out,own),[])
 |0,out,own,t::r=>(some (out,own),t::r)
 |f+1,out,own,t::r=>
  if (Bf t).2=0∨(Bf t).2<n∨own<Rl (Bf t).2 then(some (out,own),t::r)
  else bnd (rec r ((Bf t).2+1)) fun b j=>Cw rec n f (⟨(Bf t).1,[]⟩::(out++b)) (Bf t).2 j
def Jd:Nat→Aw4
 |0,ts,n=>(none,ts)
 |f+1,ts,n=>bnd (B9 (Jd f) ts n) fun x i=>bnd (Cw (Jd f) n i.length x.1 x.2 i) fun y j=>(some y.1,j)
def CL(ts:List Tk)(n:Nat):Rs (List Nd):=Jd (ts.length+1) ts n
theorem H9{α β:Type}{r:Rs α}{k:α→List Tk→Rs β}{ts:List Tk}(h:r.2 <:+ ts)(hk: ∀a i,i <:+ ts→(k a i).2 <:+ ts):(bnd r k).2 <:+ ts:=by
 obtain⟨o,i⟩:=r
 cases o with
 |none=>exact h
 |some a=>exact hk a i h
theorem Rh{ts:List Tk}:ts.tail <:+ ts:=List.tail_suffix ts
theorem Aaj{β:Type}{s:By}{ts:List Tk}{k:List Tk→Rs β}{u:List Tk}(h:ts <:+ u)(hk: ∀i,i <:+ u→(k i).2 <:+ u):(Hk s ts k).2 <:+ u:=by
 unfold Hk
 split
 ·exact hk _ (Rh.trans h)
 ·exact h
theorem Bpf{rec:Aw4}(hr: ∀ts n,(rec ts n).2 <:+ ts)(ts:List Tk):(Dg rec ts).2 <:+ ts:=by
 cases ts with
 |nil=>exact List.suffix_refl _
 |cons t r=>
  have hc:r <:+ t::r:=List.suffix_cons t r
  unfold Dg
  simp only
  split
  ·exact H9 ((hr _ _).trans hc) fun a i hi=>Aaj hi fun j hj=>hj
  ·split
   ·exact Aaj hc fun r2 h2=>H9 ((hr _ _).trans h2) fun a i hi=>Aaj hi fun i2 hi2=>H9 ((hr _ _).trans hi2) fun b j hj=>Aaj hj fun j2 hj2=>hj2
   ·split
    ·split
     ·exact Rh.trans hc
     ·exact hc
    ·split
     ·exact hc
     ·exact List.suffix_refl _
theorem Al1{rec:Aw4}(hr: ∀ts n,(rec ts n).2 <:+ ts)(ts:List Tk)(n:Nat):(B9 rec ts n).2 <:+ ts:=by
 unfold B9
 split
 ·exact H9 ((hr _ _).trans Rh) fun a i hi=>Aaj hi fun i2 hi2=>H9 ((hr _ _).trans hi2) fun b j hj=>Aaj hj fun j2 hj2=>H9 ((hr _ _).trans hj2) fun c k hk=>hk
 ·split
  ·exact H9 ((hr _ _).trans Rh) fun a i hi=>hi
  ·split
   ·exact H9 ((hr _ _).trans Rh) fun a i hi=>hi
   ·exact H9 (Bpf hr ts) fun a i hi=>hi
theorem Ax7{rec:Aw4}(hr: ∀ts n,(rec ts n).2 <:+ ts)(n:Nat): ∀(f:Nat) (out:List Nd) (own:Nat) (ts:List Tk),(Cw rec n f out own ts).2 <:+ ts
 |f,out,own,[]=>by cases f<;>exact List.suffix_refl _
 |0,out,own,t::r=>List.suffix_refl _
 |f+1,out,own,t::r=>by
  unfold Cw
  split
  ·exact List.suffix_refl _
  ·exact H9 ((hr _ _).trans (List.suffix_cons t r)) fun b j hj=>(Ax7 hr n f _ _ j).trans hj
theorem Hl: ∀(f:Nat) (ts:List Tk) (n:Nat),(Jd f ts n).2 <:+ ts
 |0,ts,n=>List.suffix_refl _
 |f+1,ts,n=>by
  unfold Jd
  exact H9 (Al1 (Hl f) ts n) fun x i hi=>H9 ((Ax7 (Hl f) n _ _ _ _).trans hi) fun y j hj=>hj
def Lt{α:Type}(r:Rs α)(n:Nat):Prop:=r.1≠none→r.2.length<n
theorem Aas{α β:Type}{r:Rs α}{k:α→List Tk→Rs β}{n:Nat}(hk: ∀a,r.1=some a→Lt (k a r.2) n):Lt (bnd r k) n:=by
 obtain⟨o,i⟩:=r
 cases o with
 |none=>intro h;exact absurd rfl h
 |some a=>exact hk a rfl
theorem Amj{β:Type}{s:By}{ts:List Tk}{k:List Tk→Rs β}{n:Nat}(hk:Lt (k ts.tail) n):Lt (Hk s ts k) n:=by
 unfold Hk
 split
 ·exact hk
 ·intro h;exact absurd rfl h
theorem Pt{α:Type}{a:α}{i:List Tk}{n:Nat}(h:i.length<n):Lt ((some a,i):Rs α) n:=fun _=>h
theorem Bj1{α:Type}{i:List Tk}{n:Nat}:Lt ((none,i):Rs α) n:=fun h=>absurd rfl h
def Agree(f g:Aw4)(n:Nat):Prop:= ∀ts k,ts.length<n→f ts k=g ts k
theorem Be{α β:Type}{r r':Rs α}{k k':α→List Tk→Rs β}(h:r=r')(hk: ∀a,r.1=some a→k a r.2=k' a r.2):bnd r k=bnd r' k':=by
 subst h
 obtain⟨o,i⟩:=r
 cases o with
 |none=>rfl
 |some a=>exact hk a rfl
theorem Jk{s:By}{ts:List Tk}(h:isT s ts=true):ts.tail.length+1=ts.length:=by
 cases ts with
 |nil=>cases h
 |cons t r=>rfl
theorem Aff{β:Type}{s:By}{ts:List Tk}{k k':List Tk→Rs β}(hk:isT s ts=true→k ts.tail=k' ts.tail):Hk s ts k=Hk s ts k':=by
 unfold Hk
 split
 ·exact hk (by assumption)
 ·rfl
theorem Bhv{f g:Aw4}(hr: ∀ts n,(f ts n).2 <:+ ts){ts:List Tk}(h:Agree f g ts.length):Dg f ts=Dg g ts:=by
 cases ts with
 |nil=>rfl
 |cons t r=>
  unfold Dg
  simp only
  have hl: ∀i:List Tk,i.length≤r.length→ ∀k,f i k=g i k:=fun i hi k=>h i k (by simp;omega)
  split
  ·exact Be (hl _ (Nat.le_refl _) _) fun a ha=>rfl
  ·split
   ·refine Aff fun hw=>?_
    have hw:=Jk hw
    refine Be (hl _ (by omega) _) fun a ha=>?_
    have hf:=(hr r.tail 0).length_le
    refine Aff fun hw2=>?_
    have hw2:=Jk hw2
    exact Be (hl _ (by omega) _) fun b hb=>rfl
   ·rfl
theorem Auj{f g:Aw4}(hr: ∀ts n,(f ts n).2 <:+ ts){ts:List Tk}(n:Nat)(h:Agree f g ts.length):B9 f ts n=B9 g ts n:=by
 unfold B9
 have hl: ∀i:List Tk,i.length<ts.length→ ∀k,f i k=g i k:=fun i hi k=>h i k hi
 split
 ·rename_i hw
  have hw:=Jk hw.2
  refine Be (hl _ (by omega) _) fun a ha=>?_
  have h1:=(hr ts.tail 0).length_le
  refine Aff fun hw2=>?_
  have hw2:=Jk hw2
  refine Be (hl _ (by omega) _) fun b hb=>?_
  have h2:=(hr (f ts.tail 0).2.tail 0).length_le
  refine Aff fun hw3=>?_
  have hw3:=Jk hw3
  exact Be (hl _ (by omega) _) fun c hc=>rfl
 ·split
  ·rename_i hw
   have hw:=Jk hw.2
   exact Be (hl _ (by omega) _) fun a ha=>rfl
  ·split
   ·rename_i hw
    have hw:=Jk hw
    exact Be (hl _ (by omega) _) fun a ha=>rfl
   ·exact Be (Bhv hr h) fun a ha=>rfl
theorem Aa6{f g:Aw4}(hr: ∀ts n,(f ts n).2 <:+ ts)(n:Nat): ∀(a b:Nat) (out:List Nd) (own:Nat) (ts:List Tk),Agree f g ts.length→ts.length≤a→ts.length≤b→Cw f n a out own ts=Cw g n b out own ts
 |a,b,out,own,[],_,_,_=>by cases a<;>cases b<;>rfl
 |0,_,out,own,t::r,_,h,_=>absurd h (by simp)
 |_,0,out,own,t::r,_,_,h=>absurd h (by simp)
 |a+1,b+1,out,own,t::r,h,ha,hb=>by
  unfold Cw
  split
  ·rfl
  ·have h1:=(hr r ((Bf t).2+1)).length_le
   simp only[List.length_cons] at ha hb
   exact Be (h _ _ (by simp)) fun x hx=>Aa6 hr n a b _ _ _ (fun i k hi=>h i k (by simp;omega)) (by omega) (by omega)
theorem Aud: ∀(f g:Nat) (ts:List Tk) (n:Nat),ts.length<f→ts.length<g→Jd f ts n=Jd g ts n
 |0,_,ts,n,h,_=>absurd h (by simp)
 |_,0,ts,n,_,h=>absurd h (by simp)
 |f+1,g+1,ts,n,hf,hg=>by
  unfold Jd
  have hag:Agree (Jd f) (Jd g) ts.length:=fun i k hi=>Aud f g i k (by omega) (by omega)
  refine Be (Auj (Hl f) n hag) fun x hx=>?_
  have hs:=(Al1 (Hl f) ts n).length_le
  exact Be (Aa6 (Hl f) n _ _ _ _ _ (fun i k hi=>hag i k (by omega)) (Nat.le_refl _) (Nat.le_refl _)) fun y hy=>rfl
theorem Bt6{f:Nat}{ts:List Tk}(h:ts.length<f)(n:Nat):Jd f ts n=CL ts n:=Aud _ _ _ _ h (by omega)
theorem Fk(ts:List Tk)(n:Nat):(CL ts n).2 <:+ ts:=Hl _ _ _
theorem An3(ts:List Tk)(n:Nat):CL ts n=bnd (B9 CL ts n) fun x i=>bnd (Cw CL n i.length x.1 x.2 i) fun y j=>(some y.1,j):=by
 have hag:Agree (Jd ts.length) CL ts.length:=fun i k hi=>Bt6 hi k
 show Jd (ts.length+1) ts n=_
 unfold Jd
 refine Be (Auj (Hl _) n hag) fun x hx=>?_
 have hs:=(Al1 (Hl ts.length) ts n).length_le
 exact Be (Aa6 (Hl _) n _ _ _ _ _ (fun i k hi=>hag i k (by omega)) (Nat.le_refl _) (Nat.le_refl _)) fun y hy=>rfl
theorem Brp(ts:List Tk):Lt (Dg CL ts) ts.length:=by
 cases ts with
 |nil=>exact Bj1
 |cons t r=>
  have hs:=fun i k=>(Fk i k).length_le
  have ht: ∀i:List Tk,i.tail.length≤i.length:=fun i=>by simp
  unfold Dg
  simp only[List.length_cons]
  split
  ·refine Aas fun a ha=>Amj (Pt ?_)
   have:=hs r 0;have:=ht (CL r 0).2
   omega
  ·split
   ·refine Amj (Aas fun a ha=>Amj (Aas fun b hb=>Amj (Pt ?_)))
    have:=ht r;have:=hs r.tail 0;have:=ht (CL r.tail 0).2;have:=hs (CL r.tail 0).2.tail 0;have:=ht (CL (CL r.tail 0).2.tail 0).2
    omega
   ·split
    ·split
     ·refine Pt ?_
      have:=ht r
      omega
     ·exact Pt (by omega)
    ·split
     ·exact Pt (by omega)
     ·exact Bj1
theorem Bbg(ts:List Tk)(n:Nat):Lt (B9 CL ts n) ts.length:=by
 have hs:=fun i k=>(Fk i k).length_le
 have ht: ∀i:List Tk,i.tail.length≤i.length:=fun i=>by simp
 unfold B9
 split
 ·rename_i hw
  have hw:=Jk hw.2
  refine Aas fun a ha=>Amj (Aas fun b hb=>Amj (Aas fun c hc=>Pt ?_))
  have:=hs ts.tail 0;have:=ht (CL ts.tail 0).2;have:=hs (CL ts.tail 0).2.tail 0;have:=ht (CL (CL ts.tail 0).2.tail 0).2;have:=hs (CL (CL ts.tail 0).2.tail 0).2.tail 0
  omega
 ·split
  ·rename_i hw
   have hw:=Jk hw.2
   refine Aas fun a ha=>Pt ?_
   have:=hs ts.tail 3
   omega
  ·split
   ·rename_i hw
    have hw:=Jk hw
    refine Aas fun a ha=>Pt ?_
    have:=hs ts.tail 7
    omega
   ·refine Aas fun a ha=>Pt ?_
    exact Brp ts (by rw[ha];simp)
theorem Bsx(n:Nat):CL [] n=(none,[]):=by
 rw[An3]
 simp[B9,isT,Dg,bnd]
end Go.Av.G
end
section
set_option linter.unusedVariables false
set_option linter.unusedSimpArgs false
set_option maxRecDepth 4000
set_option maxHeartbeats 4000000
namespace Go.Av.G
open Go Go.Av Go.Proofs
theorem Br4(s:By):(Aqm s).2=0∨(Aqm s).2=1∨(Aqm s).2=2∨(Aqm s).2=4∨(Aqm s).2=5∨(Aqm s).2=6:=by
 unfold Aqm
 repeat' split
 all_goals simp
theorem Ps(t:Tk):(Bf t).2=0∨(Bf t).2=1∨(Bf t).2=2∨(Bf t).2=4∨(Bf t).2=5∨(Bf t).2=6:=by
 unfold Bf
 split
 ·exact Or.inl rfl
 ·exact Br4 _
theorem H8{α β γ:Type}(r:Rs α)(k:α→List Tk→Rs β)(g:β→List Tk→Rs γ):bnd (bnd r k) g=bnd r fun a i=>bnd (k a i) g:=by
 obtain⟨o,i⟩:=r
 cases o<;>rfl
theorem Bq1{α:Type}(r:Rs α):bnd r (fun a i=>(some a,i))=r:=by
 obtain⟨o,i⟩:=r
 cases o<;>rfl
def Aft(n:Nat):Nat→List Nd→List Tk→Rs (List Nd)
 |_,out,[]=>(some out,[])
 |0,out,t::r=>(some out,t::r)
 |f+1,out,t::r=>if (Bf t).2=n then bnd (CL r (n+1)) fun b j=>if n=4 then(some (⟨(Bf t).1,[]⟩::(out++b)),j) else Aft n f (⟨(Bf t).1,[]⟩::(out++b)) j else(some out,t::r)
theorem A46(n:Nat){a b:Nat}(out:List Nd)(own:Nat){ts:List Tk}(ha:ts.length≤a)(hb:ts.length≤b):Cw CL n a out own ts=Cw CL n b out own ts:=
 Aa6 Fk n a b out own ts (fun i k hi=>rfl) ha hb
theorem El{n f:Nat}{out:List Nd}{own:Nat}{t:Tk}{r:List Tk}(h:(Bf t).2=0∨(Bf t).2<n∨own<Rl (Bf t).2):Cw CL n f out own (t::r)=(some (out,own),t::r):=by
 cases f with
 |zero=>rfl
 |succ f=>unfold Cw;rw[if_pos h]
theorem Jm{n f:Nat}{out:List Nd}{own:Nat}{t:Tk}{r:List Tk}(h: ¬((Bf t).2=0∨(Bf t).2<n∨own<Rl (Bf t).2)):Cw CL n (f+1) out own (t::r)=bnd (CL r ((Bf t).2+1)) fun b j=>Cw CL n f (⟨(Bf t).1,[]⟩::(out++b)) (Bf t).2 j:=by
 rw[Cw,if_neg h]
def Bsh(n own:Nat)(ts:List Tk):Prop:=match ts with
 |[]=>True
 |t::_=>(Bf t).2=0∨(Bf t).2<n∨own<Rl (Bf t).2
theorem Ax9(n:Nat): ∀(f:Nat) (out:List Nd) (own:Nat) (ts:List Tk),ts.length≤f→ ∀x j,Cw CL n f out own ts=(some x,j)→Bsh n x.2 j∧(n≤own→n≤x.2)
 |f,out,own,[],_,x,j,h=>by
  have:Cw CL n f out own []=(some (out,own),[]):=by cases f<;>rfl
  rw[this] at h
  cases h
  exact⟨trivial,id⟩
 |0,out,own,t::r,hf,x,j,h=>absurd hf (by simp)
 |f+1,out,own,t::r,hf,x,j,h=>by
  simp only[List.length_cons] at hf
  by_cases hs:(Bf t).2=0∨(Bf t).2<n∨own<Rl (Bf t).2
  ·rw[El hs] at h
   cases h
   exact⟨hs,id⟩
  ·rw[Jm hs] at h
   have hl:=(Fk r ((Bf t).2+1)).length_le
   cases hc:CL r ((Bf t).2+1) with
   |mk o i=>
    rw[hc] at h hl
    cases o with
    |none=>cases h
    |some b=>
     obtain⟨h1,h2⟩:=Ax9 n f _ _ i (by simp at hl;omega) x j h
     exact⟨h1,fun _=>h2 (by omega)⟩
theorem Ax8{n m:Nat}(hnm:n≤m): ∀(k f:Nat) (out:List Nd) (own:Nat) (ts:List Tk),ts.length≤f→ts.length≤k→Cw CL n f out own ts=bnd (Cw CL m f out own ts) fun x j=>Cw CL n k x.1 x.2 j
 |k,f,out,own,[],_,_=>by cases f<;>cases k<;>rfl
 |k,0,out,own,t::r,hf,_=>absurd hf (by simp)
 |0,f,out,own,t::r,_,hk=>absurd hk (by simp)
 |k+1,f+1,out,own,t::r,hf,hk=>by
  by_cases hs:(Bf t).2=0∨(Bf t).2<m∨own<Rl (Bf t).2
  ·rw[El hs (n:=m)]
   exact A46 n out own hf hk
  ·rw[Jm hs,Jm (by omega),H8]
   simp only[List.length_cons] at hf hk
   refine Be rfl fun b hb=>?_
   have hl:=(Fk r ((Bf t).2+1)).length_le
   rw[Ax8 hnm (k+1) f _ _ _ (by omega) (by omega)]
theorem Bb4{n:Nat}(hn:n=1∨n=2∨n=5∨n=6): ∀(f:Nat) (out:List Nd) (ts:List Tk),ts.length≤f→(bnd (Cw CL n f out n ts) fun y j=>(some y.1,j))=Aft n f out ts
 |f,out,[],_=>by cases f<;>rfl
 |0,out,t::r,hf=>absurd hf (by simp)
 |f+1,out,t::r,hf=>by
  simp only[List.length_cons] at hf
  have hd:=Ps t
  by_cases hs:(Bf t).2=n
  ·rw[Jm (by unfold Rl;rw[hs,if_neg (by omega)];omega),H8,Aft,if_pos hs,hs]
   refine Be rfl fun b hb=>?_
   have hl:=(Fk r (n+1)).length_le
   rw[Bb4 hn f _ _ (by omega),if_neg (by omega)]
  ·rw[El (by unfold Rl;split<;>omega),Aft,if_neg hs]
   rfl
theorem Blf{f:Nat}{out:List Nd}{ts:List Tk}:Cw CL 4 f out 4 ts=(some (out,4),ts):=by
 cases ts with
 |nil=>cases f<;>rfl
 |cons t r=>
  have hd:=Ps t
  exact El (by unfold Rl;split<;>omega)
theorem Blg{n:Nat}(hn:n=1∨n=2∨n=4∨n=5∨n=6){f:Nat}{out:List Nd}{own:Nat}{ts:List Tk}(hf:ts.length≤f)(hs:Bsh (n+1) own ts)(ho:n+1≤own):(bnd (Cw CL n f out own ts) fun y j=>(some y.1,j))=Aft n f out ts:=by
 cases ts with
 |nil=>cases f<;>rfl
 |cons t r=>
  cases f with
  |zero=>exact absurd hf (by simp)
  |succ f=>
   simp only[List.length_cons] at hf
   have hd:=Ps t
   have hs:(Bf t).2=0∨(Bf t).2<n+1∨own<Rl (Bf t).2:=hs
   by_cases he:(Bf t).2=n
   ·rw[Jm (by rw[he];unfold Rl;split<;>omega),H8,Aft,if_pos he,he]
    refine Be rfl fun b hb=>?_
    have hl:=(Fk r (n+1)).length_le
    by_cases h4:n=4
    ·subst h4
     rw[Blf,if_pos rfl]
     rfl
    ·rw[Bb4 (by omega) f _ _ (by omega),if_neg h4]
   ·rw[El (by omega),Aft,if_neg he]
    rfl
theorem Ip{n:Nat}(hn:n≠0)(ts:List Tk):B9 CL ts n=if n≤3∧isT Alk ts=true then bnd (CL ts.tail 3) fun a i=>(some (⟨14,[]⟩::a,3),i)
 else if isT [45] ts=true then bnd (CL ts.tail 7) fun a i=>(some (⟨2,[]⟩::a,7),i)
 else bnd (Dg CL ts) fun a i=>(some (a,8),i):=by
 unfold B9
 rw[if_neg (fun c=>hn c.1)]
theorem Bf5{n:Nat}(hn:n=1∨n=2∨n=4∨n=5∨n=6)(ts:List Tk):B9 CL ts n=B9 CL ts (n+1):=by
 rw[Ip (by omega),Ip (by omega)]
 by_cases h:isT Alk ts=true
 ·have hd:(n≤3∧isT Alk ts=true)↔(n+1≤3∧isT Alk ts=true):=⟨fun c=>⟨by have:=c.1;omega,h⟩,fun c=>⟨by have:=c.1;omega,h⟩⟩
  simp only[hd]
 ·simp only[h,and_false,if_false,Bool.false_eq_true]
theorem Bk7{n:Nat}(hn:1≤n)(h7:n≤7)(ts:List Tk): ∀x j,B9 CL ts n=(some x,j)→n≤x.2:=by
 intro x j h
 rw[Ip (by omega)] at h
 split at h
 ·rename_i h3
  cases hc:CL ts.tail 3 with
  |mk o i=>cases o with
   |none=>rw[hc] at h;cases h
   |some a=>rw[hc] at h;cases h;exact h3.1
 ·split at h
  ·cases hc:CL ts.tail 7 with
   |mk o i=>cases o with
    |none=>rw[hc] at h;cases h
    |some a=>rw[hc] at h;cases h;exact h7
  ·cases hc:Dg CL ts with
   |mk o i=>cases o with
    |none=>rw[hc] at h;cases h
    |some a=>rw[hc] at h;cases h;show n≤8;omega
theorem Bsw{n:Nat}(hn:n=1∨n=2∨n=4∨n=5∨n=6)(ts:List Tk):CL ts n=bnd (CL ts (n+1)) fun out i=>Aft n i.length out i:=by
 rw[An3 ts n,An3 ts (n+1),Bf5 hn,H8]
 refine Be rfl fun x hx=>?_
 generalize hi:(B9 CL ts (n+1)).2=i
 have hown:=Bk7 (n:=n+1) (by omega) (by omega) ts x i (by rw[←hi,←hx])
 rw[Ax8 (Nat.le_succ n) i.length i.length x.1 x.2 i (Nat.le_refl _) (Nat.le_refl _),H8,H8]
 refine Be rfl fun y hy=>?_
 generalize hj:(Cw CL (n+1) i.length x.1 x.2 i).2=j
 obtain⟨h1,h2⟩:=Ax9 (n+1) i.length x.1 x.2 i (Nat.le_refl _) y j (by rw[←hj,←hy])
 have hl:=(Ax7 Fk (n+1) i.length x.1 x.2 i).length_le
 rw[hj] at hl
 show _=Aft n j.length y.1 j
 rw[A46 n y.1 y.2 hl (Nat.le_refl j.length)]
 exact Blg hn (Nat.le_refl _) h1 (h2 hown)
theorem Al7{n f:Nat}{out:List Nd}{own:Nat}{ts:List Tk}(h: ∀t r,ts=t::r→(Bf t).2=0∨(Bf t).2<n∨own<Rl (Bf t).2):Cw CL n f out own ts=(some (out,own),ts):=by
 cases ts with
 |nil=>cases f<;>rfl
 |cons t r=>exact El (h t r rfl)
theorem Bqs(ts:List Tk):CL ts 0=if isT sIf ts=true then
   bnd (CL ts.tail 0) fun a i=>Hk Aou i fun i2=>bnd (CL i2 0) fun b j=>Hk Alj j fun j2=>bnd (CL j2 0) fun c k=>(some (⟨15,[]⟩::(a++b++c)),k)
  else CL ts 1:=by
 rw[An3 ts 0]
 by_cases h:isT sIf ts=true
 ·rw[if_pos h]
  unfold B9
  rw[if_pos ⟨rfl,h⟩,H8]
  refine Be rfl fun a ha=>?_
  unfold Hk
  split
  ·rw[H8]
   refine Be rfl fun b hb=>?_
   split
   ·rw[H8]
    refine Be rfl fun c hc=>?_
    show bnd (Cw CL 0 _ _ 0 _) _=_
    rw[Al7 (fun t r he=>by have:=Ps t;unfold Rl;split<;>omega)]
    rfl
   ·rfl
  ·rfl
 ·rw[if_neg h,An3 ts 1]
  have hf:B9 CL ts 0=B9 CL ts 1:=by
   rw[Ip (n:=1) (by omega)]
   unfold B9
   rw[if_neg (fun c=>h c.2)]
   simp
  rw[hf]
  refine Be rfl fun x hx=>?_
  generalize (B9 CL ts 1).2=i
  have key: ∀(f:Nat) (out:List Nd) (own:Nat) (ts:List Tk),Cw CL 0 f out own ts=Cw CL 1 f out own ts:=by
   intro f
   induction f with
   |zero=>intro out own ts;cases ts<;>rfl
   |succ f ih=>
    intro out own ts
    cases ts with
    |nil=>rfl
    |cons t r=>
     by_cases hs:(Bf t).2=0∨(Bf t).2<0∨own<Rl (Bf t).2
     ·rw[El hs,El (by omega)]
     ·rw[Jm hs,Jm (by omega)]
      exact Be rfl fun b hb=>ih _ _ _
  rw[key]
theorem Bmu(ts:List Tk):CL ts 3=if isT Alk ts=true then bnd (CL ts.tail 3) fun a i=>(some (⟨14,[]⟩::a),i) else CL ts 4:=by
 rw[An3 ts 3]
 by_cases h:isT Alk ts=true
 ·rw[if_pos h]
  rw[Ip (by omega),if_pos ⟨by omega,h⟩,H8]
  refine Be rfl fun a ha=>?_
  show bnd (Cw CL 3 _ _ 3 _) _=_
  rw[Al7 (fun t r he=>by have:=Ps t;unfold Rl;split<;>omega)]
  rfl
 ·rw[if_neg h,An3 ts 4]
  have hf:B9 CL ts 3=B9 CL ts 4:=by
   rw[Ip (by omega),Ip (by omega)]
   simp only[h,and_false,if_false,Bool.false_eq_true]
  rw[hf]
  refine Be rfl fun x hx=>?_
  generalize (B9 CL ts 4).2=i
  have key: ∀(f:Nat) (out:List Nd) (own:Nat) (ts:List Tk),Cw CL 3 f out own ts=Cw CL 4 f out own ts:=by
   intro f
   induction f with
   |zero=>intro out own ts;cases ts<;>rfl
   |succ f ih=>
    intro out own ts
    cases ts with
    |nil=>rfl
    |cons t r=>
     have hd:=Ps t
     by_cases hs:(Bf t).2=0∨(Bf t).2<3∨own<Rl (Bf t).2
     ·rw[El hs,El (by omega)]
     ·rw[Jm hs,Jm (by omega)]
      exact Be rfl fun b hb=>ih _ _ _
  rw[key]
theorem Bmt(ts:List Tk):CL ts 7=if isT [45] ts=true then bnd (CL ts.tail 7) fun a i=>(some (⟨2,[]⟩::a),i) else Dg CL ts:=by
 rw[An3 ts 7]
 rw[Ip (by omega),if_neg (fun c=>absurd c.1 (by omega))]
 by_cases h:isT [45] ts=true
 ·rw[if_pos h,if_pos h,H8]
  refine Be rfl fun a ha=>?_
  show bnd (Cw CL 7 _ _ 7 _) _=_
  rw[Al7 (fun t r he=>by have:=Ps t;omega)]
  rfl
 ·rw[if_neg h,if_neg h,H8]
  conv=>rhs;rw[←Bq1 (Dg CL ts)]
  refine Be rfl fun a ha=>?_
  show bnd (Cw CL 7 _ _ 8 _) _=_
  rw[Al7 (fun t r he=>by have:=Ps t;omega)]
  rfl
end Go.Av.G
end
