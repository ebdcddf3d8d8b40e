import Derived.Test.YtgmiodjnojkdkaaGreatDoorC14
set_option linter.all false
section
set_option maxHeartbeats 8000000
set_option maxRecDepth 100000
namespace Go.Av.G
open Go Go.Av Go.Proofs
def Aaw:List TOp:=[oo 0 (.mov (.cst (.bool false)))]
def Aax:List TOp:=[oo 29 (.call 0 0 (.cst (.fn 9)) [(.cst (.str [97,45,98,32,45,32,99,42,45,50,37]))] [] []),oo 28 (.mov (.tmp 29)),oo 30 (.ext 0 (.tmp 28)),oo 31 (.ext 1 (.tmp 28)),oo 32 (.ext 2 (.tmp 28)),oo 33 (.ext 3 (.tmp 28)),oo 1 (.mov (.tmp 30)),oo 2 (.mov (.tmp 31)),oo 3 (.mov (.tmp 32)),oo 4 (.mov (.tmp 33))]
def Aay:List TOp:=[oo 35 (.mov (.tmp 1)),oo 36 (.call 0 0 (.cst (.fn 17)) [(.tmp 35)] [] []),oo 34 (.mov (.tmp 36)),oo 37 (.ext 0 (.tmp 34)),oo 38 (.ext 1 (.tmp 34)),oo 5 (.mov (.tmp 37)),oo 6 (.mov (.tmp 38))]
def Aaz:List TOp:=[oo 40 (.call 0 0 (.cst (.fn 9)) [(.cst (.str [40,97,32,60,32,49,41,32,61,32,40,110,111,116,32,98,41]))] [] []),oo 39 (.mov (.tmp 40)),oo 41 (.ext 0 (.tmp 39)),oo 42 (.ext 1 (.tmp 39)),oo 43 (.ext 2 (.tmp 39)),oo 44 (.ext 3 (.tmp 39)),oo 7 (.mov (.tmp 41)),oo 8 (.mov (.tmp 42)),oo 9 (.mov (.tmp 43)),oo 10 (.mov (.tmp 44))]
def Aa0:List TOp:=[oo 46 (.mov (.tmp 7)),oo 47 (.call 0 0 (.cst (.fn 17)) [(.tmp 46)] [] []),oo 45 (.mov (.tmp 47)),oo 48 (.ext 0 (.tmp 45)),oo 49 (.ext 1 (.tmp 45)),oo 11 (.mov (.tmp 48)),oo 12 (.mov (.tmp 49))]
def Aa1:List TOp:=[oo 51 (.call 0 0 (.cst (.fn 9)) [(.cst (.str [97,10,32,60,32,98,32,60,32,99]))] [] []),oo 50 (.mov (.tmp 51)),oo 52 (.ext 0 (.tmp 50)),oo 53 (.ext 1 (.tmp 50)),oo 54 (.ext 2 (.tmp 50)),oo 55 (.ext 3 (.tmp 50)),oo 13 (.mov (.tmp 52)),oo 14 (.mov (.tmp 53)),oo 15 (.mov (.tmp 54)),oo 16 (.mov (.tmp 55))]
def Aa2:List TOp:=[oo 57 (.call 0 0 (.cst (.fn 9)) [(.cst (.str [40,97]))] [] []),oo 56 (.mov (.tmp 57)),oo 58 (.ext 0 (.tmp 56)),oo 59 (.ext 1 (.tmp 56)),oo 60 (.ext 2 (.tmp 56)),oo 61 (.ext 3 (.tmp 56)),oo 17 (.mov (.tmp 58)),oo 18 (.mov (.tmp 59)),oo 19 (.mov (.tmp 60)),oo 20 (.mov (.tmp 61))]
def Aa3:List TOp:=[oo 63 (.call 0 0 (.cst (.fn 12)) [(.cst (.str [112,114,111,100,117,99,116,32,115,97,118,101,32,101,117,114,32,123,32,98,97,115,105,115,32,97,99,116,51,54,53,32,59,32,112,101,114,105,111,100,32,51,32,59,32,116,105,101,114,115,32,123,32,48,32,58,32,49,46,50,53,32,37,32,59,32,53,48,48,32,58,32,50,32,37,32,59,32,125,32,102,101,101,32,105,102,32,98,97,108,97,110,99,101,32,60,32,49,48,32,116,104,101,110,32,49,32,101,108,115,101,32,48,32,59,32,109,105,110,105,109,117,109,32,53,32,59,32,111,118,101,114,100,114,97,102,116,32,48,32,59,32,110,111,116,105,99,101,32,51,48,32,59,32,125]))] [] []),oo 62 (.mov (.tmp 63)),oo 64 (.ext 0 (.tmp 62)),oo 65 (.ext 1 (.tmp 62)),oo 66 (.ext 2 (.tmp 62)),oo 67 (.ext 3 (.tmp 62)),oo 21 (.mov (.tmp 64)),oo 22 (.mov (.tmp 65)),oo 23 (.mov (.tmp 66)),oo 24 (.mov (.tmp 67))]
def Aa4:List TOp:=[oo 69 (.mov (.tmp 21)),oo 70 (.call 0 0 (.cst (.fn 19)) [(.tmp 69)] [] []),oo 68 (.mov (.tmp 70)),oo 71 (.ext 0 (.tmp 68)),oo 72 (.ext 1 (.tmp 68)),oo 25 (.mov (.tmp 71)),oo 26 (.mov (.tmp 72))]
def Aa5:List TOp:=[oo 73 (.mov (.tmp 1)),ot 74 (.st 4) (.build [.pv (.int .i64 0),.pv (.str [])] [(0,1,(.cst (.int .i64 4)))]),ot 75 (.st 4) (.build [.pv (.int .i64 0),.pv (.str [])] [(0,1,(.cst (.int .i64 4)))]),ot 76 (.st 4) (.build [.pv (.int .i64 0),.pv (.str [])] [(0,1,(.cst (.int .i64 1))),(1,1,(.cst (.str [97])))]),ot 77 (.st 4) (.build [.pv (.int .i64 0),.pv (.str [])] [(0,1,(.cst (.int .i64 1))),(1,1,(.cst (.str [98])))]),ot 78 (.st 4) (.build [.pv (.int .i64 0),.pv (.str [])] [(0,1,(.cst (.int .i64 5)))]),ot 79 (.st 4) (.build [.pv (.int .i64 0),.pv (.str [])] [(0,1,(.cst (.int .i64 1))),(1,1,(.cst (.str [99])))]),ot 80 (.st 4) (.build [.pv (.int .i64 0),.pv (.str [])] [(0,1,(.cst (.int .i64 2)))]),ot 81 (.st 4) (.build [.pv (.int .i64 0),.pv (.str [])] [(1,1,(.cst (.str [50,37])))]),ot 82 (.st 4) (.lit false 2 [(.tmp 74),(.tmp 75),(.tmp 76),(.tmp 77),(.tmp 78),(.tmp 79),(.tmp 80),(.tmp 81)]),oo 83 (.call 0 0 (.cst (.fn 11)) [(.tmp 73),(.tmp 82)] [] []),oo 27 (.mov (.tmp 83))]
def W6:List TOp:=[oo 84 (.mov (.tmp 21)),oo 85 (.len false (.tmp 84)),oo 86 (.bin false .neq (.tmp 85) (.cst (.int .i64 1)))]
def W7:List TOp:=[oo 0 (.mov (.cst (.bool false)))]
def I6:Kp:=⟨[],[(0,false)],[],[],[]⟩
def W8:List TOp:=[oo 87 (.mov (.tmp 4)),oo 88 (.bin false .eql (.tmp 87) (.cst (.int .i64 0))),oo 89 (.mov (.tmp 88)),og 90 89 true .bool (.mov (.tmp 27)),oo 91 (.pick (.tmp 89) (.tmp 90) (.cst (.bool false))),oo 92 (.mov (.tmp 91)),og 93 92 true .bool (.mov (.tmp 6)),og 94 92 true .bool (.bin false .eql (.tmp 93) (.cst (.int .i64 0))),oo 95 (.pick (.tmp 92) (.tmp 94) (.cst (.bool false))),oo 96 (.mov (.tmp 95)),og 97 96 true .bool (.mov (.tmp 5)),og 98 96 true .bool (.bin false .eql (.tmp 97) (.cst (.str [97,32,45,32,98,32,45,32,99,32,42,32,45,32,50,32,37]))),oo 99 (.pick (.tmp 96) (.tmp 98) (.cst (.bool false))),oo 100 (.mov (.tmp 99)),og 101 100 true .bool (.mov (.tmp 1)),og 102 100 true .bool (.call 0 0 (.cst (.fn 21)) [(.tmp 101)] [] []),og 103 100 true .bool (.bin false .eql (.tmp 102) (.cst (.int .i64 4))),oo 104 (.pick (.tmp 100) (.tmp 103) (.cst (.bool false))),oo 105 (.mov (.tmp 104)),og 106 105 true .bool (.mov (.tmp 10)),og 107 105 true .bool (.bin false .eql (.tmp 106) (.cst (.int .i64 0))),oo 108 (.pick (.tmp 105) (.tmp 107) (.cst (.bool false))),oo 109 (.mov (.tmp 108)),og 110 109 true .bool (.mov (.tmp 12)),og 111 109 true .bool (.bin false .eql (.tmp 110) (.cst (.int .i64 0))),oo 112 (.pick (.tmp 109) (.tmp 111) (.cst (.bool false))),oo 113 (.mov (.tmp 112)),og 114 113 true .bool (.mov (.tmp 11)),og 115 113 true .bool (.bin false .eql (.tmp 114) (.cst (.str [40,32,97,32,60,32,49,32,41,32,61,32,40,32,110,111,116,32,98,32,41]))),oo 116 (.pick (.tmp 113) (.tmp 115) (.cst (.bool false))),oo 117 (.mov (.tmp 116)),og 118 117 true .bool (.mov (.tmp 16)),og 119 117 true .bool (.bin false .eql (.tmp 118) (.cst (.int .i64 14))),oo 120 (.pick (.tmp 117) (.tmp 119) (.cst (.bool false))),oo 121 (.mov (.tmp 120)),og 122 121 true .bool (.mov (.tmp 14)),og 123 121 true .bool (.bin false .eql (.tmp 122) (.cst (.int .i64 2))),oo 124 (.pick (.tmp 121) (.tmp 123) (.cst (.bool false))),oo 125 (.mov (.tmp 124)),og 126 125 true .bool (.mov (.tmp 15)),og 127 125 true .bool (.bin false .eql (.tmp 126) (.cst (.int .i64 6))),oo 128 (.pick (.tmp 125) (.tmp 127) (.cst (.bool false))),oo 129 (.mov (.tmp 128)),og 130 129 true .bool (.mov (.tmp 20)),og 131 129 true .bool (.bin false .eql (.tmp 130) (.cst (.int .i64 14))),oo 132 (.pick (.tmp 129) (.tmp 131) (.cst (.bool false))),oo 133 (.mov (.tmp 132)),og 134 133 true .bool (.mov (.tmp 18)),og 135 133 true .bool (.bin false .eql (.tmp 134) (.cst (.int .i64 1))),oo 136 (.pick (.tmp 133) (.tmp 135) (.cst (.bool false))),oo 137 (.mov (.tmp 136)),og 138 137 true .bool (.mov (.tmp 19)),og 139 137 true .bool (.bin false .eql (.tmp 138) (.cst (.int .i64 3))),oo 140 (.pick (.tmp 137) (.tmp 139) (.cst (.bool false))),oo 141 (.mov (.tmp 140)),og 142 141 true .bool (.mov (.tmp 24)),og 143 141 true .bool (.bin false .eql (.tmp 142) (.cst (.int .i64 0))),oo 144 (.pick (.tmp 141) (.tmp 143) (.cst (.bool false))),oo 145 (.mov (.tmp 144)),og 146 145 true .bool (.mov (.tmp 26)),og 147 145 true .bool (.bin false .eql (.tmp 146) (.cst (.int .i64 0))),oo 148 (.pick (.tmp 145) (.tmp 147) (.cst (.bool false))),oo 149 (.mov (.tmp 148)),og 150 149 true .bool (.mov (.tmp 25)),og 151 149 true .bool (.bin false .eql (.tmp 150) (.cst (.str [112,114,111,100,117,99,116,32,115,97,118,101,32,101,117,114,32,123,32,98,97,115,105,115,32,97,99,116,51,54,53,32,59,32,112,101,114,105,111,100,32,51,32,59,32,116,105,101,114,115,32,123,32,48,32,58,32,49,46,50,53,32,37,32,59,32,53,48,48,32,58,32,50,32,37,32,59,32,125,32,102,101,101,32,105,102,32,98,97,108,97,110,99,101,32,60,32,49,48,32,116,104,101,110,32,49,32,101,108,115,101,32,48,32,59,32,109,105,110,105,109,117,109,32,53,32,59,32,111,118,101,114,100,114,97,102,116,32,48,32,59,32,110,111,116,105,99,101,32,51,48,32,59,32,125]))),oo 152 (.pick (.tmp 149) (.tmp 151) (.cst (.bool false))),oo 153 (.mov (.tmp 152)),og 154 153 true .bool (.mov (.tmp 21)),og 155 153 true .bool (.idx 9 (.tmp 154) (.cst (.int .i64 0))),og 156 153 true .bool (.fld 4 (.tmp 155)),og 157 153 true .bool (.load false 1 (.tmp 156)),og 158 153 true .bool (.len false (.tmp 157)),og 159 153 true .bool (.bin false .eql (.tmp 158) (.cst (.int .i64 2))),oo 160 (.pick (.tmp 153) (.tmp 159) (.cst (.bool false))),oo 161 (.mov (.tmp 160)),og 162 161 true .bool (.mov (.tmp 21)),og 163 161 true .bool (.idx 9 (.tmp 162) (.cst (.int .i64 0))),og 164 161 true .bool (.fld 4 (.tmp 163)),og 165 161 true .bool (.load false 1 (.tmp 164)),og 166 161 true .bool (.idx 2 (.tmp 165) (.cst (.int .i64 1))),og 167 161 true .bool (.fld 1 (.tmp 166)),og 168 161 true .bool (.load false 1 (.tmp 167)),og 169 161 true .bool (.bin false .eql (.tmp 168) (.cst (.str [50]))),oo 170 (.pick (.tmp 161) (.tmp 169) (.cst (.bool false))),oo 171 (.mov (.tmp 170)),og 172 171 true .bool (.mov (.tmp 21)),og 173 171 true .bool (.idx 9 (.tmp 172) (.cst (.int .i64 0))),og 174 171 true .bool (.fld 8 (.tmp 173)),og 175 171 true .bool (.load false 1 (.tmp 174)),og 176 171 true .bool (.bin false .eql (.tmp 175) (.cst (.str [51,48]))),oo 177 (.pick (.tmp 171) (.tmp 176) (.cst (.bool false))),oo 178 (.mov (.tmp 177)),og 179 178 true .bool (.mov (.tmp 21)),og 180 178 true .bool (.idx 9 (.tmp 179) (.cst (.int .i64 0))),og 181 178 true (.st 7) (.load true 9 (.tmp 180)),og 182 178 true .bool (.mov (.tmp 21)),og 183 178 true .bool (.idx 9 (.tmp 182) (.cst (.int .i64 0))),og 184 178 true (.st 7) (.load true 9 (.tmp 183)),og 185 178 true .bool (.call 0 0 (.cst (.fn 24)) [(.tmp 181),(.tmp 184)] [] []),oo 186 (.pick (.tmp 178) (.tmp 185) (.cst (.bool false))),oo 187 (.mov (.tmp 186)),og 188 187 true (.st 4) (.build [.pv (.int .i64 0),.pv (.str [])] [(0,1,(.cst (.int .i64 2)))]),og 189 187 true (.st 4) (.lit false 2 [(.tmp 188)]),og 190 187 true .bool (.call 0 0 (.cst (.fn 23)) [(.tmp 189)] [] []),og 191 187 true .bool (.un .not (.tmp 190)),oo 192 (.pick (.tmp 187) (.tmp 191) (.cst (.bool false))),oo 193 (.mov (.tmp 192)),og 194 193 true .bool (.mov (.tmp 1)),og 195 193 true .bool (.call 0 0 (.cst (.fn 23)) [(.tmp 194)] [] []),oo 196 (.pick (.tmp 193) (.tmp 195) (.cst (.bool false))),oo 0 (.mov (.tmp 196))]
def Ahs:TFd:=⟨0,[(.tmp 0,.bool)],[],(.seq (.ops Aaw) (.seq (.ops Aax) (.seq (.ops Aay) (.seq (.ops Aaz) (.seq (.ops Aa0) (.seq (.ops Aa1) (.seq (.ops Aa2) (.seq (.ops Aa3) (.seq (.ops Aa4) (.seq (.ops Aa5) (.seq (.seq (.ops W6) (.cond (.tmp 86) (.free (.seq (.ops W7) (.keep I6 .ret))) .skip)) (.seq (.draw [] W8) (.keep I6 .ret)))))))))))))⟩
noncomputable def K8:Ent:=⟨[],[],[],⟨(.ty .bool),[],[],[.bool],[],[]⟩,none,fun p=>Bn⟩
theorem Zz:K8.ok Tryz.prog 8:=Aw hm Tryz.func8 (fd:=Ahs) (by kernel_rfl) (Al (l:=[(9,Aam),(17,Uj),(12,Ahj),(19,Ll),(11,En),(21,Ui),(24,Aou),(23,Gs)]) (y:=[]) ⟨Alh,Ahl,Aot,T3,Gf,Ahk,Azk,Hg,trivial⟩ trivial) (by kernel_rfl) (fun p=>by kernel_rfl)
def Abm:List TOp:=[oo 2 (.mov (.cst (.int .i64 0)))]
def Abn:List TOp:=[oo 3 (.mov (.cst (.int .i64 0)))]
def Abo:List TOp:=[oo 4 (.mov (.tmp 3)),oo 5 (.mov (.tmp 0)),oo 6 (.len true (.tmp 5)),oo 7 (.bin false .lss (.tmp 4) (.tmp 6))]
def Abp:List TOp:=[oo 8 (.mov (.tmp 0)),oo 9 (.mov (.tmp 3)),oo 10 (.sidx (.tmp 8) (.tmp 9)),oo 11 (.bin false .eql (.tmp 10) (.cst (.int .u8 35)))]
def Abq:List TOp:=[oo 12 (.mov (.tmp 3)),oo 13 (.mov (.tmp 0)),oo 14 (.len true (.tmp 13)),oo 15 (.bin false .lss (.tmp 12) (.tmp 14)),oo 16 (.mov (.tmp 15)),og 17 16 true .bool (.mov (.tmp 0)),og 18 16 true .bool (.mov (.tmp 3)),og 19 16 true .bool (.sidx (.tmp 17) (.tmp 18)),og 20 16 true .bool (.bin false .neq (.tmp 19) (.cst (.int .u8 10))),oo 21 (.pick (.tmp 16) (.tmp 20) (.cst (.bool false)))]
def Abr:List TOp:=[oo 22 (.mov (.tmp 3)),oo 23 (.bin false .add (.tmp 22) (.cst (.int .i64 1))),oo 3 (.mov (.tmp 23))]
def Abl:DC:=(.seq (.seq (.ops Abq) (.cond (.tmp 21) .skip (.exit 2))) (.pass 3 (.ops Abr)))
def J1:Kp:=⟨[],[(0,false),(3,false)],[],[],[]⟩
def J2:Sig:=⟨[(0,none),(3,some (.ty (.int .i64)))],[],[(.int .i64)],[],[]⟩
def Abs:List TOp:=[oo 24 (.mov (.tmp 0)),oo 25 (.mov (.tmp 3)),oo 26 (.sidx (.tmp 24) (.tmp 25)),oo 27 (.bin false .eql (.tmp 26) (.cst (.int .u8 32))),oo 28 (.mov (.tmp 27)),og 29 28 false .bool (.mov (.tmp 0)),og 30 28 false .bool (.mov (.tmp 3)),og 31 28 false .bool (.sidx (.tmp 29) (.tmp 30)),og 32 28 false .bool (.bin false .eql (.tmp 31) (.cst (.int .u8 9))),oo 33 (.pick (.tmp 28) (.cst (.bool true)) (.tmp 32)),oo 34 (.mov (.tmp 33)),og 35 34 false .bool (.mov (.tmp 0)),og 36 34 false .bool (.mov (.tmp 3)),og 37 34 false .bool (.sidx (.tmp 35) (.tmp 36)),og 38 34 false .bool (.bin false .eql (.tmp 37) (.cst (.int .u8 10))),oo 39 (.pick (.tmp 34) (.cst (.bool true)) (.tmp 38))]
def Xj:List TOp:=[oo 40 (.mov (.tmp 3)),oo 41 (.bin false .add (.tmp 40) (.cst (.int .i64 1))),oo 3 (.mov (.tmp 41))]
def Xk:List TOp:=[oo 42 (.mov (.tmp 3)),oo 2 (.mov (.tmp 42))]
def I7:Kp:=⟨[],[(2,false)],[],[],[]⟩
def Xi:DC:=(.seq (.seq (.ops Abo) (.cond (.tmp 7) .skip (.exit 0))) (.pass 1 (.seq (.ops Abp) (.cond (.tmp 11) (.block 2 (.loop [0,3] [] J1 J2 Abl)) (.seq (.ops Abs) (.cond (.tmp 39) (.ops Xj) (.free (.seq (.ops Xk) (.keep I7 .ret)))))))))
def Xh:Kp:=⟨[],[(3,false)],[],[],[]⟩
def Xm:Sig:=⟨[(3,some (.ty (.int .i64)))],[],[(.int .i64)],[],[]⟩
def Xl:List TOp:=[oo 43 (.mov (.tmp 3)),oo 2 (.mov (.tmp 43))]
def Ah3:TFd:=⟨1,[(.tmp 2,.bool)],[],(.seq (.ops Abm) (.seq (.ops Abn) (.seq (.joinO Xh Xm (.block 0 (.loop [0,3] [] J1 J2 Xi))) (.seq (.ops Xl) (.keep I7 .ret)))))⟩
noncomputable def La:Ent:=⟨[.ty .str],[],[.str],⟨(.ty (.int .i64)),[],[],[(.int .i64)],[],[]⟩,none,fun p=>C3 p⟩
theorem Z1:La.ok Tryz.prog 50:=Aw hm Tryz.func50 (fd:=Ah3) (by kernel_rfl) (Al (l:=[]) (y:=[]) trivial trivial) (by kernel_rfl) (fun p=>by kernel_rfl)
def Xy:List TOp:=[oo 2 (.mov (.cst (.bool false)))]
def Xz:List TOp:=[oo 3 (.mov (.tmp 0)),oo 4 (.bin false .geq (.tmp 3) (.cst (.int .u8 97))),oo 5 (.mov (.tmp 4)),og 6 5 true .bool (.mov (.tmp 0)),og 7 5 true .bool (.bin false .leq (.tmp 6) (.cst (.int .u8 122))),oo 8 (.pick (.tmp 5) (.tmp 7) (.cst (.bool false))),oo 2 (.mov (.tmp 8))]
def Xx:Kp:=⟨[],[(2,false)],[],[],[]⟩
def Aez:TFd:=⟨1,[(.tmp 2,.bool)],[],(.seq (.ops Xy) (.seq (.ops Xz) (.keep Xx .ret)))⟩
def Gc:Ent:=⟨[.ty (.int .u8)],[],[(.int .u8)],⟨(.ty .bool),[],[],[.bool],[],[]⟩,none,fun p=>Dl p⟩
theorem Iz:Gc.ok Tryz.prog 82:=Aw hm Tryz.func82 (fd:=Aez) (by kernel_rfl) (Al (l:=[]) (y:=[]) trivial trivial) (by kernel_rfl) (fun p=>by kernel_rfl)
def Abu:List TOp:=[oo 2 (.mov (.cst (.bool false)))]
def Abv:List TOp:=[oo 3 (.mov (.tmp 0)),oo 4 (.bin false .geq (.tmp 3) (.cst (.int .u8 48))),oo 5 (.mov (.tmp 4)),og 6 5 true .bool (.mov (.tmp 0)),og 7 5 true .bool (.bin false .leq (.tmp 6) (.cst (.int .u8 57))),oo 8 (.pick (.tmp 5) (.tmp 7) (.cst (.bool false))),oo 2 (.mov (.tmp 8))]
def Abt:Kp:=⟨[],[(2,false)],[],[],[]⟩
def Ah4:TFd:=⟨1,[(.tmp 2,.bool)],[],(.seq (.ops Abu) (.seq (.ops Abv) (.keep Abt .ret)))⟩
def Da:Ent:=⟨[.ty (.int .u8)],[],[(.int .u8)],⟨(.ty .bool),[],[],[.bool],[],[]⟩,none,fun p=>B7 p⟩
theorem D3:Da.ok Tryz.prog 84:=Aw hm Tryz.func84 (fd:=Ah4) (by kernel_rfl) (Al (l:=[]) (y:=[]) trivial trivial) (by kernel_rfl) (fun p=>by kernel_rfl)
def Afm:List TOp:=[oo 2 (.alloc [.pv (.int .i64 0),.pv (.int .i64 0),.pv (.int .i64 0)])]
def Afn:List TOp:=[oo 3 (.mov (.cst (.int .i64 0)))]
def Afo:List TOp:=[oo 4 (.mov (.tmp 3)),oo 5 (.mov (.tmp 0)),oo 6 (.len true (.tmp 5)),oo 7 (.bin false .lss (.tmp 4) (.tmp 6)),oo 8 (.mov (.tmp 7)),og 9 8 true .bool (.mov (.tmp 0)),og 10 8 true .bool (.mov (.tmp 3)),og 11 8 true .bool (.sidx (.tmp 9) (.tmp 10)),og 12 8 true .bool (.call 0 0 (.cst (.fn 82)) [(.tmp 11)] [] []),og 13 8 true .bool (.mov (.tmp 12)),og 14 13 false .bool (.mov (.tmp 0)),og 15 13 false .bool (.mov (.tmp 3)),og 16 13 false .bool (.sidx (.tmp 14) (.tmp 15)),og 17 13 false .bool (.call 0 0 (.cst (.fn 84)) [(.tmp 16)] [] []),og 18 8 true .bool (.pick (.tmp 13) (.cst (.bool true)) (.tmp 17)),og 19 8 true .bool (.mov (.tmp 18)),og 20 19 false .bool (.mov (.tmp 0)),og 21 19 false .bool (.mov (.tmp 3)),og 22 19 false .bool (.sidx (.tmp 20) (.tmp 21)),og 23 19 false .bool (.bin false .eql (.tmp 22) (.cst (.int .u8 95))),og 24 8 true .bool (.pick (.tmp 19) (.cst (.bool true)) (.tmp 23)),oo 25 (.pick (.tmp 8) (.tmp 24) (.cst (.bool false)))]
def Afp:List TOp:=[oo 26 (.mov (.tmp 3)),oo 27 (.bin false .add (.tmp 26) (.cst (.int .i64 1))),oo 3 (.mov (.tmp 27))]
def Afl:DC:=(.seq (.seq (.ops Afo) (.cond (.tmp 25) .skip (.exit 0))) (.pass 1 (.ops Afp)))
def Afj:Kp:=⟨[],[(0,false),(2,false),(3,false)],[(.loc 2 0,false)],[],[]⟩
def Afr:Sig:=⟨[(0,none),(2,some (.ptr (.loc 2 0) 0)),(3,some (.ty (.int .i64)))],[(.loc 2 0,(.box [none,none,none]))],[(.int .i64)],[],[]⟩
def Afk:Kp:=⟨[],[(2,false),(3,false)],[(.loc 2 0,false)],[],[]⟩
def Afs:Sig:=⟨[(2,some (.ptr (.loc 2 0) 0)),(3,some (.ty (.int .i64)))],[(.loc 2 0,(.box [none,none,none]))],[(.int .i64)],[],[]⟩
def Afq:List TOp:=[oo 28 (.mov (.tmp 3)),oo 29 (.bin false .gtr (.tmp 28) (.cst (.int .i64 32)))]
def Ab1:List TOp:=[ot 30 (.st 8) (.build [.pv (.int .i64 0),.pv (.int .i64 0),.pv (.int .i64 0)] [(2,1,(.cst (.int .i64 3)))]),on (.store 3 (.tmp 2) (.tmp 30))]
def J3:Kp:=⟨[],[(2,false)],[(.loc 2 0,false)],[],[]⟩
def Ab2:List TOp:=[oo 31 (.mov (.tmp 3)),ot 32 (.st 8) (.build [.pv (.int .i64 0),.pv (.int .i64 0),.pv (.int .i64 0)] [(0,1,(.cst (.int .i64 0))),(1,1,(.tmp 31))]),on (.store 3 (.tmp 2) (.tmp 32))]
def Aka:TFd:=⟨1,[(.cell 2 true 3,(.st 8))],[],(.seq (.ops Afm) (.seq (.ops Afn) (.seq (.join Afk Afs (.block 0 (.loop [0,2,3] [] Afj Afr Afl))) (.seq (.seq (.ops Afq) (.cond (.tmp 29) (.free (.seq (.ops Ab1) (.keep J3 .ret))) .skip)) (.seq (.ops Ab2) (.keep J3 .ret))))))⟩
noncomputable def Mv:Ent:=⟨[.ty .str],[],[.str],⟨(.ty (.st 8)),[],[],[(.st 8)],[],[]⟩,none,fun p=>Ge p⟩
theorem Adz:Mv.ok Tryz.prog 83:=Aw hm Tryz.func83 (fd:=Aka) (by kernel_rfl) (Al (l:=[(82,Gc),(84,Da)]) (y:=[]) ⟨Iz,D3,trivial⟩ trivial) (by kernel_rfl) (fun p=>by kernel_rfl)
def Xq:List TOp:=[oo 2 (.mov (.cst (.int .i64 0)))]
def Xr:List TOp:=[oo 3 (.mov (.cst (.int .i64 0)))]
def Xs:List TOp:=[oo 4 (.mov (.tmp 3)),oo 5 (.mov (.tmp 0)),oo 6 (.len true (.tmp 5)),oo 7 (.bin false .lss (.tmp 4) (.tmp 6)),oo 8 (.mov (.tmp 7)),og 9 8 true .bool (.mov (.tmp 0)),og 10 8 true .bool (.mov (.tmp 3)),og 11 8 true .bool (.sidx (.tmp 9) (.tmp 10)),og 12 8 true .bool (.call 0 0 (.cst (.fn 84)) [(.tmp 11)] [] []),oo 13 (.pick (.tmp 8) (.tmp 12) (.cst (.bool false)))]
def Xt:List TOp:=[oo 14 (.mov (.tmp 3)),oo 15 (.bin false .add (.tmp 14) (.cst (.int .i64 1))),oo 3 (.mov (.tmp 15))]
def Xp:DC:=(.seq (.seq (.ops Xs) (.cond (.tmp 13) .skip (.exit 0))) (.pass 1 (.ops Xt)))
def Xn:Kp:=⟨[],[(0,false),(3,false)],[],[],[]⟩
def Xv:Sig:=⟨[(0,none),(3,some (.ty (.int .i64)))],[],[(.int .i64)],[],[]⟩
def Xo:Kp:=⟨[],[(3,false)],[],[],[]⟩
def Xw:Sig:=⟨[(3,some (.ty (.int .i64)))],[],[(.int .i64)],[],[]⟩
def Xu:List TOp:=[oo 16 (.mov (.tmp 3)),oo 2 (.mov (.tmp 16))]
def Un:Kp:=⟨[],[(2,false)],[],[],[]⟩
def Aey:TFd:=⟨1,[(.tmp 2,.bool)],[],(.seq (.ops Xq) (.seq (.ops Xr) (.seq (.join Xo Xw (.block 0 (.loop [0,3] [] Xn Xv Xp))) (.seq (.ops Xu) (.keep Un .ret)))))⟩
noncomputable def Jj:Ent:=⟨[.ty .str],[],[.str],⟨(.ty (.int .i64)),[],[],[(.int .i64)],[],[]⟩,none,fun p=>Cy p⟩
theorem Wo:Jj.ok Tryz.prog 107:=Aw hm Tryz.func107 (fd:=Aey) (by kernel_rfl) (Al (l:=[(84,Da)]) (y:=[]) ⟨D3,trivial⟩ trivial) (by kernel_rfl) (fun p=>by kernel_rfl)
def X1:List TOp:=[oo 2 (.alloc [.pv (.int .i64 0),.pv (.int .i64 0),.pv (.int .i64 0)])]
def X2:List TOp:=[oo 5 (.mov (.tmp 0)),oo 6 (.call 0 0 (.cst (.fn 107)) [(.tmp 5)] [] []),oo 3 (.mov (.tmp 6))]
def X3:List TOp:=[oo 4 (.mov (.cst (.int .i64 0)))]
def X4:List TOp:=[oo 7 (.mov (.tmp 3)),oo 8 (.bin false .add (.tmp 7) (.cst (.int .i64 1))),oo 9 (.mov (.tmp 0)),oo 10 (.len true (.tmp 9)),oo 11 (.bin false .lss (.tmp 8) (.tmp 10)),oo 12 (.mov (.tmp 11)),og 13 12 true .bool (.mov (.tmp 0)),og 14 12 true .bool (.mov (.tmp 3)),og 15 12 true .bool (.sidx (.tmp 13) (.tmp 14)),og 16 12 true .bool (.bin false .eql (.tmp 15) (.cst (.int .u8 46))),oo 17 (.pick (.tmp 12) (.tmp 16) (.cst (.bool false))),oo 18 (.mov (.tmp 17)),og 19 18 true .bool (.mov (.tmp 0)),og 20 18 true .bool (.mov (.tmp 3)),og 21 18 true .bool (.bin false .add (.tmp 20) (.cst (.int .i64 1))),og 22 18 true .bool (.sidx (.tmp 19) (.tmp 21)),og 23 18 true .bool (.call 0 0 (.cst (.fn 84)) [(.tmp 22)] [] []),oo 24 (.pick (.tmp 18) (.tmp 23) (.cst (.bool false)))]
def X5:List TOp:=[oo 25 (.mov (.tmp 0)),oo 26 (.mov (.tmp 3)),oo 27 (.bin false .add (.tmp 26) (.cst (.int .i64 1))),oo 28 (.slc true 0 (.tmp 25) (some (.tmp 27)) none),oo 29 (.call 0 0 (.cst (.fn 107)) [(.tmp 28)] [] []),oo 4 (.mov (.tmp 29))]
def X0:Kp:=⟨[],[(0,false),(2,false),(3,false),(4,false)],[(.loc 2 0,false)],[],[]⟩
def X8:Sig:=⟨[(0,none),(2,some (.ptr (.loc 2 0) 0)),(3,none),(4,some (.ty (.int .i64)))],[(.loc 2 0,(.box [none,none,none]))],[(.int .i64)],[],[]⟩
def X6:List TOp:=[oo 30 (.mov (.tmp 3)),oo 31 (.bin false .gtr (.tmp 30) (.cst (.int .i64 15))),oo 32 (.mov (.tmp 31)),og 33 32 false .bool (.mov (.tmp 4)),og 34 32 false .bool (.bin false .gtr (.tmp 33) (.cst (.int .i64 9))),oo 35 (.pick (.tmp 32) (.cst (.bool true)) (.tmp 34)),oo 36 (.mov (.tmp 35)),og 37 36 false .bool (.mov (.tmp 3)),og 38 36 false .bool (.bin false .gtr (.tmp 37) (.cst (.int .i64 1))),og 39 36 false .bool (.mov (.tmp 38)),og 40 39 true .bool (.mov (.tmp 0)),og 41 39 true .bool (.sidx (.tmp 40) (.cst (.int .i64 0))),og 42 39 true .bool (.bin false .eql (.tmp 41) (.cst (.int .u8 48))),og 43 36 false .bool (.pick (.tmp 39) (.tmp 42) (.cst (.bool false))),oo 44 (.pick (.tmp 36) (.cst (.bool true)) (.tmp 43))]
def X7:List TOp:=[ot 45 (.st 8) (.build [.pv (.int .i64 0),.pv (.int .i64 0),.pv (.int .i64 0)] [(2,1,(.cst (.int .i64 3)))]),on (.store 3 (.tmp 2) (.tmp 45))]
def Fs:Kp:=⟨[],[(2,false)],[(.loc 2 0,false)],[],[]⟩
def Uo:List TOp:=[oo 46 (.mov (.tmp 4)),oo 47 (.bin false .gtr (.tmp 46) (.cst (.int .i64 0)))]
def Uq:List TOp:=[oo 48 (.mov (.tmp 3)),oo 49 (.bin false .add (.tmp 48) (.cst (.int .i64 1))),oo 50 (.mov (.tmp 4)),oo 51 (.bin false .add (.tmp 49) (.tmp 50)),ot 52 (.st 8) (.build [.pv (.int .i64 0),.pv (.int .i64 0),.pv (.int .i64 0)] [(0,1,(.cst (.int .i64 1))),(1,1,(.tmp 51))]),on (.store 3 (.tmp 2) (.tmp 52))]
def Ur:List TOp:=[oo 53 (.mov (.tmp 3)),ot 54 (.st 8) (.build [.pv (.int .i64 0),.pv (.int .i64 0),.pv (.int .i64 0)] [(0,1,(.cst (.int .i64 1))),(1,1,(.tmp 53))]),on (.store 3 (.tmp 2) (.tmp 54))]
def Ae8:TFd:=⟨1,[(.cell 2 true 3,(.st 8))],[],(.seq (.ops X1) (.seq (.ops X2) (.seq (.ops X3) (.seq (.seq (.ops X4) (.join X0 X8 (.cond (.tmp 24) (.ops X5) .skip))) (.seq (.seq (.ops X6) (.cond (.tmp 44) (.free (.seq (.ops X7) (.keep Fs .ret))) .skip)) (.seq (.seq (.ops Uo) (.cond (.tmp 47) (.free (.seq (.ops Uq) (.keep Fs .ret))) .skip)) (.seq (.ops Ur) (.keep Fs .ret))))))))⟩
noncomputable def Jk:Ent:=⟨[.ty .str],[],[.str],⟨(.ty (.st 8)),[],[],[(.st 8)],[],[]⟩,none,fun p=>E0 p⟩
theorem Wp:Jk.ok Tryz.prog 85:=Aw hm Tryz.func85 (fd:=Ae8) (by kernel_rfl) (Al (l:=[(107,Jj),(84,Da)]) (y:=[]) ⟨Wo,D3,trivial⟩ trivial) (by kernel_rfl) (fun p=>by kernel_rfl)
def Ya:List TOp:=[oo 2 (.alloc [.pv (.int .i64 0),.pv (.int .i64 0),.pv (.int .i64 0)])]
def Yb:List TOp:=[oo 3 (.mov (.cst (.int .i64 1)))]
def Yc:List TOp:=[oo 5 (.mov (.tmp 3)),oo 6 (.mov (.tmp 0)),oo 7 (.len true (.tmp 6)),oo 8 (.bin false .lss (.tmp 5) (.tmp 7)),oo 9 (.mov (.tmp 8)),og 10 9 true .bool (.mov (.tmp 0)),og 11 9 true .bool (.mov (.tmp 3)),og 12 9 true .bool (.sidx (.tmp 10) (.tmp 11)),og 13 9 true .bool (.bin false .neq (.tmp 12) (.cst (.int .u8 34))),oo 14 (.pick (.tmp 9) (.tmp 13) (.cst (.bool false)))]
def Yd:List TOp:=[oo 15 (.mov (.tmp 3)),oo 16 (.bin false .add (.tmp 15) (.cst (.int .i64 1))),oo 3 (.mov (.tmp 16))]
def X9:DC:=(.seq (.seq (.ops Yc) (.cond (.tmp 14) .skip (.exit 0))) (.pass 1 (.ops Yd)))
def I8:Kp:=⟨[],[(0,false),(2,false),(3,false)],[(.loc 2 0,false)],[],[]⟩
def I9:Sig:=⟨[(0,none),(2,some (.ptr (.loc 2 0) 0)),(3,some (.ty (.int .i64)))],[(.loc 2 0,(.box [none,none,none]))],[(.int .i64)],[],[]⟩
def Ye:List TOp:=[oo 17 (.mov (.tmp 3)),oo 18 (.mov (.tmp 0)),oo 19 (.len true (.tmp 18)),oo 20 (.bin false .eql (.tmp 17) (.tmp 19))]
def Yf:List TOp:=[ot 21 (.st 8) (.build [.pv (.int .i64 0),.pv (.int .i64 0),.pv (.int .i64 0)] [(2,1,(.cst (.int .i64 14)))]),on (.store 3 (.tmp 2) (.tmp 21))]
def Du:Kp:=⟨[],[(2,false)],[(.loc 2 0,false)],[],[]⟩
def Uv:List TOp:=[oo 4 (.mov (.cst (.int .i64 1)))]
def Uw:List TOp:=[oo 22 (.mov (.tmp 4)),oo 23 (.mov (.tmp 3)),oo 24 (.bin false .lss (.tmp 22) (.tmp 23))]
def Ux:List TOp:=[oo 27 (.mov (.tmp 0)),oo 28 (.mov (.tmp 4)),oo 29 (.sidx (.tmp 27) (.tmp 28)),oo 30 (.bin false .lss (.tmp 29) (.cst (.int .u8 32))),oo 31 (.mov (.tmp 30)),og 32 31 false .bool (.mov (.tmp 0)),og 33 31 false .bool (.mov (.tmp 4)),og 34 31 false .bool (.sidx (.tmp 32) (.tmp 33)),og 35 31 false .bool (.bin false .gtr (.tmp 34) (.cst (.int .u8 126))),oo 36 (.pick (.tmp 31) (.cst (.bool true)) (.tmp 35))]
def Uy:List TOp:=[ot 37 (.st 8) (.build [.pv (.int .i64 0),.pv (.int .i64 0),.pv (.int .i64 0)] [(2,1,(.cst (.int .i64 3)))]),on (.store 3 (.tmp 2) (.tmp 37))]
def Uz:List TOp:=[oo 25 (.mov (.tmp 4)),oo 26 (.bin false .add (.tmp 25) (.cst (.int .i64 1))),oo 4 (.mov (.tmp 26))]
def Uu:DC:=(.seq (.seq (.ops Uw) (.cond (.tmp 24) .skip (.exit 2))) (.seq (.pass 3 (.seq (.ops Ux) (.cond (.tmp 36) (.free (.seq (.ops Uy) (.keep Du .ret))) .skip))) (.ops Uz)))
def Us:Kp:=⟨[],[(0,false),(2,false),(3,false),(4,false)],[(.loc 2 0,false)],[],[]⟩
def U3:Sig:=⟨[(0,none),(2,some (.ptr (.loc 2 0) 0)),(3,none),(4,some (.ty (.int .i64)))],[(.loc 2 0,(.box [none,none,none]))],[(.int .i64)],[],[]⟩
def Ut:Kp:=⟨[],[(2,false),(3,false)],[(.loc 2 0,false)],[],[]⟩
def U4:Sig:=⟨[(2,some (.ptr (.loc 2 0) 0)),(3,none)],[(.loc 2 0,(.box [none,none,none]))],[],[],[]⟩
def U0:List TOp:=[oo 38 (.mov (.tmp 3)),oo 39 (.bin false .gtr (.tmp 38) (.cst (.int .i64 33)))]
def U1:List TOp:=[ot 40 (.st 8) (.build [.pv (.int .i64 0),.pv (.int .i64 0),.pv (.int .i64 0)] [(2,1,(.cst (.int .i64 3)))]),on (.store 3 (.tmp 2) (.tmp 40))]
def U2:List TOp:=[oo 41 (.mov (.tmp 3)),oo 42 (.bin false .add (.tmp 41) (.cst (.int .i64 1))),ot 43 (.st 8) (.build [.pv (.int .i64 0),.pv (.int .i64 0),.pv (.int .i64 0)] [(0,1,(.cst (.int .i64 2))),(1,1,(.tmp 42))]),on (.store 3 (.tmp 2) (.tmp 43))]
def Ae9:TFd:=⟨1,[(.cell 2 true 3,(.st 8))],[],(.seq (.ops Ya) (.seq (.ops Yb) (.seq (.join I8 I9 (.block 0 (.loop [0,2,3] [] I8 I9 X9))) (.seq (.seq (.ops Ye) (.cond (.tmp 20) (.free (.seq (.ops Yf) (.keep Du .ret))) .skip)) (.seq (.seq (.ops Uv) (.joinO Ut U4 (.block 2 (.loop [0,2,3,4] [] Us U3 Uu)))) (.seq (.seq (.ops U0) (.cond (.tmp 39) (.free (.seq (.ops U1) (.keep Du .ret))) .skip)) (.seq (.ops U2) (.keep Du .ret))))))))⟩
noncomputable def Jl:Ent:=⟨[.ty .str],[],[.str],⟨(.ty (.st 8)),[],[],[(.st 8)],[],[]⟩,none,fun p=>E1 p⟩
theorem Wq:Jl.ok Tryz.prog 86:=Aw hm Tryz.func86 (fd:=Ae9) (by kernel_rfl) (Al (l:=[]) (y:=[]) trivial trivial) (by kernel_rfl) (fun p=>by kernel_rfl)
def Afa:List TOp:=[oo 2 (.alloc [.pv (.int .i64 0),.pv (.int .i64 0),.pv (.int .i64 0)])]
def Afb:List TOp:=[oo 5 (.mov (.tmp 0)),oo 6 (.len true (.tmp 5)),oo 7 (.bin false .gtr (.tmp 6) (.cst (.int .i64 1))),oo 8 (.mov (.tmp 7)),og 9 8 true .bool (.mov (.tmp 0)),og 10 8 true .bool (.slc true 0 (.tmp 9) none (some (.cst (.int .i64 2)))),og 11 8 true .bool (.bin false .eql (.tmp 10) (.cst (.str [60,61]))),og 12 8 true .bool (.mov (.tmp 11)),og 13 12 false .bool (.mov (.tmp 0)),og 14 12 false .bool (.slc true 0 (.tmp 13) none (some (.cst (.int .i64 2)))),og 15 12 false .bool (.bin false .eql (.tmp 14) (.cst (.str [62,61]))),og 16 8 true .bool (.pick (.tmp 12) (.cst (.bool true)) (.tmp 15)),og 17 8 true .bool (.mov (.tmp 16)),og 18 17 false .bool (.mov (.tmp 0)),og 19 17 false .bool (.slc true 0 (.tmp 18) none (some (.cst (.int .i64 2)))),og 20 17 false .bool (.bin false .eql (.tmp 19) (.cst (.str [46,46]))),og 21 8 true .bool (.pick (.tmp 17) (.cst (.bool true)) (.tmp 20)),oo 22 (.pick (.tmp 8) (.tmp 21) (.cst (.bool false)))]
def Afc:List TOp:=[ot 23 (.st 8) (.build [.pv (.int .i64 0),.pv (.int .i64 0),.pv (.int .i64 0)] [(0,1,(.cst (.int .i64 3))),(1,1,(.cst (.int .i64 2)))]),on (.store 3 (.tmp 2) (.tmp 23))]
def Ep:Kp:=⟨[],[(2,false)],[(.loc 2 0,false)],[],[]⟩
def Afd:List TOp:=[oo 3 (.mov (.cst (.str [123,125,40,41,91,93,59,58,44,37,61,60,62,43,45,42,47])))]
def Afe:List TOp:=[oo 4 (.mov (.cst (.int .i64 0)))]
def Aff:List TOp:=[oo 24 (.mov (.tmp 4)),oo 25 (.mov (.tmp 3)),oo 26 (.len true (.tmp 25)),oo 27 (.bin false .lss (.tmp 24) (.tmp 26))]
def Afg:List TOp:=[oo 30 (.mov (.tmp 3)),oo 31 (.mov (.tmp 4)),oo 32 (.sidx (.tmp 30) (.tmp 31)),oo 33 (.mov (.tmp 0)),oo 34 (.sidx (.tmp 33) (.cst (.int .i64 0))),oo 35 (.bin false .eql (.tmp 32) (.tmp 34))]
def Afh:List TOp:=[ot 36 (.st 8) (.build [.pv (.int .i64 0),.pv (.int .i64 0),.pv (.int .i64 0)] [(0,1,(.cst (.int .i64 3))),(1,1,(.cst (.int .i64 1)))]),on (.store 3 (.tmp 2) (.tmp 36))]
def Afi:List TOp:=[oo 28 (.mov (.tmp 4)),oo 29 (.bin false .add (.tmp 28) (.cst (.int .i64 1))),oo 4 (.mov (.tmp 29))]
def Abx:DC:=(.seq (.seq (.ops Aff) (.cond (.tmp 27) .skip (.exit 0))) (.seq (.pass 1 (.seq (.draw [] Afg) (.cond (.tmp 35) (.free (.seq (.ops Afh) (.keep Ep .ret))) .skip))) (.ops Afi)))
def Abw:Kp:=⟨[],[(0,false),(2,false),(3,false),(4,false)],[(.loc 2 0,false)],[],[]⟩
def Abz:Sig:=⟨[(0,none),(2,some (.ptr (.loc 2 0) 0)),(3,none),(4,some (.ty (.int .i64)))],[(.loc 2 0,(.box [none,none,none]))],[(.int .i64)],[],[]⟩
def Ab0:Sig:=⟨[(2,some (.ptr (.loc 2 0) 0))],[(.loc 2 0,(.box [none,none,none]))],[],[],[]⟩
def Aby:List TOp:=[ot 37 (.st 8) (.build [.pv (.int .i64 0),.pv (.int .i64 0),.pv (.int .i64 0)] [(2,1,(.cst (.int .i64 14)))]),on (.store 3 (.tmp 2) (.tmp 37))]
def Aj9:TFd:=⟨1,[(.cell 2 true 3,(.st 8))],[],(.seq (.ops Afa) (.seq (.seq (.ops Afb) (.cond (.tmp 22) (.free (.seq (.ops Afc) (.keep Ep .ret))) .skip)) (.seq (.ops Afd) (.seq (.seq (.ops Afe) (.joinO Ep Ab0 (.block 0 (.loop [0,2,3,4] [] Abw Abz Abx)))) (.seq (.ops Aby) (.keep Ep .ret))))))⟩
noncomputable def Mu:Ent:=⟨[.ty .str],[],[.str],⟨(.ty (.st 8)),[],[],[(.st 8)],[],[]⟩,none,fun p=>Gd p⟩
theorem Ady:Mu.ok Tryz.prog 87:=Aw hm Tryz.func87 (fd:=Aj9) (by kernel_rfl) (Al (l:=[]) (y:=[]) trivial trivial) (by kernel_rfl) (fun p=>by kernel_rfl)
def Ae0:List TOp:=[oo 2 (.alloc [.pv (.int .i64 0),.pv (.int .i64 0),.pv (.int .i64 0)])]
def Ae1:List TOp:=[oo 3 (.mov (.tmp 0)),oo 4 (.sidx (.tmp 3) (.cst (.int .i64 0))),oo 5 (.call 0 0 (.cst (.fn 82)) [(.tmp 4)] [] [])]
def Ae2:List TOp:=[oo 6 (.mov (.tmp 0)),oo 7 (.call 0 0 (.cst (.fn 83)) [(.tmp 6)] [] []),on (.store 3 (.tmp 2) (.tmp 7))]
def Eo:Kp:=⟨[],[(2,false)],[(.loc 2 0,false)],[],[]⟩
def Ae3:List TOp:=[oo 8 (.mov (.tmp 0)),oo 9 (.sidx (.tmp 8) (.cst (.int .i64 0))),oo 10 (.call 0 0 (.cst (.fn 84)) [(.tmp 9)] [] [])]
def Ae4:List TOp:=[oo 11 (.mov (.tmp 0)),oo 12 (.call 0 0 (.cst (.fn 85)) [(.tmp 11)] [] []),on (.store 3 (.tmp 2) (.tmp 12))]
def Ae5:List TOp:=[oo 13 (.mov (.tmp 0)),oo 14 (.sidx (.tmp 13) (.cst (.int .i64 0))),oo 15 (.bin false .eql (.tmp 14) (.cst (.int .u8 34)))]
def Ae6:List TOp:=[oo 16 (.mov (.tmp 0)),oo 17 (.call 0 0 (.cst (.fn 86)) [(.tmp 16)] [] []),on (.store 3 (.tmp 2) (.tmp 17))]
def Ae7:List TOp:=[oo 18 (.mov (.tmp 0)),oo 19 (.call 0 0 (.cst (.fn 87)) [(.tmp 18)] [] []),on (.store 3 (.tmp 2) (.tmp 19))]
def Aj8:TFd:=⟨1,[(.cell 2 true 3,(.st 8))],[],(.seq (.ops Ae0) (.seq (.seq (.ops Ae1) (.cond (.tmp 5) (.free (.seq (.ops Ae2) (.keep Eo .ret))) .skip)) (.seq (.seq (.ops Ae3) (.cond (.tmp 10) (.free (.seq (.ops Ae4) (.keep Eo .ret))) .skip)) (.seq (.seq (.ops Ae5) (.cond (.tmp 15) (.free (.seq (.ops Ae6) (.keep Eo .ret))) .skip)) (.seq (.ops Ae7) (.keep Eo .ret))))))⟩
noncomputable def Mt:Ent:=⟨[.ty .str],[],[.str],⟨(.ty (.st 8)),[],[],[(.st 8)],[],[]⟩,none,fun p=>Eg p⟩
theorem Adx:Mt.ok Tryz.prog 51:=Aw hm Tryz.func51 (fd:=Aj8) (by kernel_rfl) (Al (l:=[(82,Gc),(83,Mv),(84,Da),(85,Jk),(86,Jl),(87,Mu)]) (y:=[]) ⟨Iz,Adz,D3,Wp,Wq,Ady,trivial⟩ trivial) (by kernel_rfl) (fun p=>by kernel_rfl)
def Abc:List TOp:=[oo 4 (.mov (.cst (.int .i64 0))),oo 5 (.mov (.cst (.int .i64 0)))]
def Abd:List TOp:=[oo 6 (.mov (.cst (.int .i64 1)))]
def Abe:List TOp:=[oo 7 (.mov (.cst (.int .i64 1)))]
def Abf:List TOp:=[oo 8 (.mov (.cst (.int .i64 0)))]
def Abg:List TOp:=[oo 9 (.mov (.tmp 8)),oo 10 (.mov (.tmp 1)),oo 11 (.bin false .lss (.tmp 9) (.tmp 10))]
def Abh:List TOp:=[oo 14 (.mov (.tmp 7)),oo 15 (.bin false .add (.tmp 14) (.cst (.int .i64 1))),oo 7 (.mov (.tmp 15))]
def Abi:List TOp:=[oo 16 (.mov (.tmp 0)),oo 17 (.mov (.tmp 8)),oo 18 (.sidx (.tmp 16) (.tmp 17)),oo 19 (.bin false .eql (.tmp 18) (.cst (.int .u8 10)))]
def Abj:List TOp:=[oo 20 (.mov (.tmp 6)),oo 21 (.bin false .add (.tmp 20) (.cst (.int .i64 1))),oo 6 (.mov (.tmp 21))]
def Abk:List TOp:=[oo 7 (.mov (.cst (.int .i64 1)))]
def J0:Kp:=⟨[],[(0,false),(1,false),(6,false),(7,false),(8,false)],[],[],[]⟩
def Xe:Sig:=⟨[(0,none),(1,none),(6,some (.ty (.int .i64))),(7,some (.ty (.int .i64))),(8,none)],[],[(.int .i64),(.int .i64)],[],[]⟩
def Xc:List TOp:=[oo 12 (.mov (.tmp 8)),oo 13 (.bin false .add (.tmp 12) (.cst (.int .i64 1))),oo 8 (.mov (.tmp 13))]
def Xb:DC:=(.seq (.seq (.ops Abg) (.cond (.tmp 11) .skip (.exit 0))) (.seq (.pass 1 (.seq (.ops Abh) (.seq (.ops Abi) (.join J0 Xe (.cond (.tmp 19) (.seq (.ops Abj) (.ops Abk)) .skip))))) (.ops Xc)))
def Xf:Sig:=⟨[(0,none),(1,none),(6,some (.ty (.int .i64))),(7,some (.ty (.int .i64))),(8,some (.ty (.int .i64)))],[],[(.int .i64),(.int .i64),(.int .i64)],[],[]⟩
def W9:Kp:=⟨[],[(6,false),(7,false)],[],[],[]⟩
def Xg:Sig:=⟨[(6,some (.ty (.int .i64))),(7,some (.ty (.int .i64)))],[],[(.int .i64),(.int .i64)],[],[]⟩
def Xd:List TOp:=[oo 22 (.mov (.tmp 6)),oo 23 (.mov (.tmp 7)),oo 4 (.mov (.tmp 22)),oo 5 (.mov (.tmp 23))]
def Xa:Kp:=⟨[],[(4,false),(5,false)],[],[],[]⟩
def Ah2:TFd:=⟨2,[(.tmp 4,.bool),(.tmp 5,.bool)],[],(.seq (.ops Abc) (.seq (.ops Abd) (.seq (.ops Abe) (.seq (.seq (.ops Abf) (.join W9 Xg (.block 0 (.loop [0,1,6,7,8] [] J0 Xf Xb)))) (.seq (.ops Xd) (.keep Xa .ret))))))⟩
noncomputable def K9:Ent:=⟨[.ty .str,.ty (.int .i64)],[],[.str,(.int .i64)],⟨(.tup [(.ty (.int .i64)),(.ty (.int .i64))]),[],[],[(.int .i64),(.int .i64)],[],[]⟩,none,fun p=>D0 p.1 p.2⟩
theorem Z0:K9.ok Tryz.prog 32:=Aw hm Tryz.func32 (fd:=Ah2) (by kernel_rfl) (Al (l:=[]) (y:=[]) trivial trivial) (by kernel_rfl) (fun p=>by kernel_rfl)
def Aht:List TOp:=[oo 2 (.mov .nils),oo 3 (.mov (.cst (.int .i64 0))),oo 4 (.mov (.cst (.int .i64 0)))]
def Ahu:List TOp:=[oo 10 (.mov (.tmp 0)),oo 11 (.len true (.tmp 10)),oo 12 (.bin false .gtr (.tmp 11) (.cst (.int .i64 8000)))]
def Ahv:List TOp:=[oo 2 (.mov .nils),oo 3 (.mov (.cst (.int .i64 0))),oo 4 (.mov (.cst (.int .i64 4)))]
def E6:Kp:=⟨[],[(2,true),(3,false),(4,false)],[],[],[]⟩
def Ahw:List TOp:=[ot 13 (.st 2) (.lit false 4 []),oo 5 (.mov (.tmp 13))]
def Ahx:List TOp:=[oo 14 (.mov (.tmp 0)),oo 15 (.call 0 0 (.cst (.fn 50)) [(.tmp 14)] [] []),oo 6 (.mov (.tmp 15))]
def Ahy:List TOp:=[oo 16 (.mov (.tmp 6)),oo 17 (.mov (.tmp 0)),oo 18 (.len true (.tmp 17)),oo 19 (.bin false .lss (.tmp 16) (.tmp 18))]
def Ahz:List TOp:=[oo 20 (.mov (.tmp 0)),oo 21 (.mov (.tmp 6)),oo 22 (.slc true 0 (.tmp 20) (some (.tmp 21)) none),oo 23 (.call 0 0 (.cst (.fn 51)) [(.tmp 22)] [] []),oo 7 (.alloc [.pv (.int .i64 0),.pv (.int .i64 0),.pv (.int .i64 0)]),on (.store 3 (.tmp 7) (.tmp 23))]
def Ah0:List TOp:=[oo 24 (.fld 2 (.tmp 7)),oo 25 (.load false 1 (.tmp 24)),oo 26 (.bin false .neq (.tmp 25) (.cst (.int .i64 0)))]
def Ah1:List TOp:=[oo 27 (.mov (.tmp 6)),oo 28 (.fld 2 (.tmp 7)),oo 29 (.load false 1 (.tmp 28)),oo 2 (.mov .nils),oo 3 (.mov (.tmp 27)),oo 4 (.mov (.tmp 29))]
def Aep:List TOp:=[oo 30 (.mov (.tmp 5)),oo 31 (.len false (.tmp 30)),oo 32 (.bin false .eql (.tmp 31) (.cst (.int .i64 1500)))]
def Aeq:List TOp:=[oo 33 (.mov (.tmp 6)),oo 2 (.mov .nils),oo 3 (.mov (.tmp 33)),oo 4 (.mov (.cst (.int .i64 6)))]
def Aer:List TOp:=[oo 35 (.mov (.tmp 0)),oo 36 (.mov (.tmp 6)),oo 37 (.call 0 0 (.cst (.fn 32)) [(.tmp 35),(.tmp 36)] [] []),oo 34 (.mov (.tmp 37)),oo 38 (.ext 0 (.tmp 34)),oo 39 (.ext 1 (.tmp 34)),oo 8 (.mov (.tmp 38)),oo 9 (.mov (.tmp 39))]
def Aes:List TOp:=[oo 40 (.mov (.tmp 5)),oo 41 (.fld 0 (.tmp 7)),oo 42 (.load false 1 (.tmp 41)),oo 43 (.mov (.tmp 8)),oo 44 (.mov (.tmp 9)),oo 45 (.mov (.tmp 0)),oo 46 (.mov (.tmp 6)),oo 47 (.mov (.tmp 6)),oo 48 (.fld 1 (.tmp 7)),oo 49 (.load false 1 (.tmp 48)),oo 50 (.bin false .add (.tmp 47) (.tmp 49)),oo 51 (.slc true 0 (.tmp 45) (some (.tmp 46)) (some (.tmp 50))),ot 52 (.st 2) (.build [.pv (.int .i64 0),.pv (.int .i64 0),.pv (.int .i64 0),.pv (.str [])] [(0,1,(.tmp 42)),(1,1,(.tmp 43)),(2,1,(.tmp 44)),(3,1,(.tmp 51))]),ot 53 (.st 2) (.lit false 4 [(.tmp 52)]),ot 54 (.st 2) (.append 54 4 40 (.tmp 40) (.tmp 53)),oo 5 (.mov (.tmp 54))]
def Aet:List TOp:=[oo 55 (.mov (.tmp 6)),oo 56 (.fld 1 (.tmp 7)),oo 57 (.load false 1 (.tmp 56)),oo 58 (.bin false .add (.tmp 55) (.tmp 57)),oo 6 (.mov (.tmp 58))]
def Aeu:List TOp:=[oo 59 (.mov (.tmp 6)),oo 60 (.mov (.tmp 0)),oo 61 (.mov (.tmp 6)),oo 62 (.slc true 0 (.tmp 60) (some (.tmp 61)) none),oo 63 (.call 0 0 (.cst (.fn 50)) [(.tmp 62)] [] []),oo 64 (.bin false .add (.tmp 59) (.tmp 63)),oo 6 (.mov (.tmp 64))]
def Aeo:DC:=(.seq (.seq (.ops Ahy) (.cond (.tmp 19) .skip (.exit 0))) (.pass 1 (.seq (.ops Ahz) (.seq (.seq (.ops Ah0) (.cond (.tmp 26) (.free (.seq (.draw [] Ah1) (.keep E6 .ret))) .skip)) (.seq (.seq (.ops Aep) (.cond (.tmp 32) (.free (.seq (.ops Aeq) (.keep E6 .ret))) .skip)) (.seq (.ops Aer) (.seq (.draw [] Aes) (.seq (.ops Aet) (.ops Aeu)))))))))
def Aem:Kp:=⟨[],[(0,false),(5,false),(6,false)],[(.loc 54 0,false)],[.loc 7 0],[((.slot 5 (.loc 54 0) 4),(.st 2))]⟩
def Aew:Sig:=⟨[(0,none),(5,some (.own (.loc 54 0))),(6,some (.ty (.int .i64)))],[(.loc 54 0,(.row (.st 2)))],[(.int .i64),(.sl (.st 2))],[],[]⟩
def Aen:Kp:=⟨[.loc 54 0],[(5,true)],[],[],[]⟩
def Aex:Sig:=⟨[(5,some (.ty (.sl (.st 2))))],[],[(.sl (.st 2))],[],[]⟩
def Aev:List TOp:=[oo 65 (.mov (.tmp 5)),oo 2 (.mov (.tmp 65)),oo 3 (.mov (.cst (.int .i64 0))),oo 4 (.mov (.cst (.int .i64 0)))]
def Amn:TFd:=⟨1,[(.tmp 2,.bool),(.tmp 3,.bool),(.tmp 4,.bool)],[],(.seq (.ops Aht) (.seq (.seq (.ops Ahu) (.cond (.tmp 12) (.free (.seq (.ops Ahv) (.keep E6 .ret))) .skip)) (.seq (.ops Ahw) (.seq (.ops Ahx) (.seq (.joinO Aen Aex (.block 0 (.loop [0,5,6] [] Aem Aew Aeo))) (.seq (.ops Aev) (.keep E6 .ret)))))))⟩
noncomputable def Od:Ent:=⟨[.ty .str],[],[.str],⟨(.tup [(.ty (.sl (.st 2))),(.ty (.int .i64)),(.ty (.int .i64))]),[],[],[(.sl (.st 2)),(.int .i64),(.int .i64)],[],[]⟩,none,fun p=>Bq p⟩
theorem Agt:Od.ok Tryz.prog 26:=Aw hm Tryz.func26 (fd:=Amn) (by kernel_rfl) (Al (l:=[(50,La),(51,Mt),(32,K9)]) (y:=[]) ⟨Z1,Adx,Z0,trivial⟩ trivial) (by kernel_rfl) (fun p=>by kernel_rfl)
def Aft:List TOp:=[oo 2 (.box (.tmp 0)),oo 3 (.box (.tmp 1)),oo 4 (.mov (.cst (.bool false)))]
def Afu:List TOp:=[oo 7 (.fld 5 (.tmp 2)),oo 8 (.load false 1 (.tmp 7)),oo 9 (.fld 5 (.tmp 3)),oo 10 (.load false 1 (.tmp 9)),oo 11 (.call 0 0 (.cst (.fn 11)) [(.tmp 8),(.tmp 10)] [] []),oo 5 (.mov (.tmp 11))]
def Afv:List TOp:=[oo 12 (.mov (.tmp 5)),oo 13 (.un .not (.tmp 12)),oo 14 (.mov (.tmp 13)),og 15 14 false .bool (.fld 4 (.tmp 2)),og 16 14 false .bool (.load false 1 (.tmp 15)),og 17 14 false .bool (.len false (.tmp 16)),og 18 14 false .bool (.fld 4 (.tmp 3)),og 19 14 false .bool (.load false 1 (.tmp 18)),og 20 14 false .bool (.len false (.tmp 19)),og 21 14 false .bool (.bin false .neq (.tmp 17) (.tmp 20)),oo 22 (.pick (.tmp 14) (.cst (.bool true)) (.tmp 21))]
def Afw:List TOp:=[oo 4 (.mov (.cst (.bool false)))]
def Gx:Kp:=⟨[],[(4,false)],[],[],[]⟩
def Afx:List TOp:=[oo 6 (.mov (.cst (.int .i64 0)))]
def Afy:List TOp:=[oo 23 (.mov (.tmp 6)),oo 24 (.fld 4 (.tmp 2)),oo 25 (.load false 1 (.tmp 24)),oo 26 (.len false (.tmp 25)),oo 27 (.bin false .lss (.tmp 23) (.tmp 26))]
def Afz:List TOp:=[oo 30 (.fld 4 (.tmp 2)),oo 31 (.load false 1 (.tmp 30)),oo 32 (.mov (.tmp 6)),oo 33 (.idx 2 (.tmp 31) (.tmp 32)),ot 34 (.st 6) (.load true 2 (.tmp 33)),oo 35 (.fld 4 (.tmp 3)),oo 36 (.load false 1 (.tmp 35)),oo 37 (.mov (.tmp 6)),oo 38 (.idx 2 (.tmp 36) (.tmp 37)),ot 39 (.st 6) (.load true 2 (.tmp 38)),oo 40 (.eqs true [.s,.s] (.tmp 34) (.tmp 39))]
def Af0:List TOp:=[oo 4 (.mov (.cst (.bool false)))]
def Af1:List TOp:=[oo 28 (.mov (.tmp 6)),oo 29 (.bin false .add (.tmp 28) (.cst (.int .i64 1))),oo 6 (.mov (.tmp 29))]
def Acn:DC:=(.seq (.seq (.ops Afy) (.cond (.tmp 27) .skip (.exit 0))) (.seq (.pass 1 (.seq (.draw [] Afz) (.cond (.tmp 40) (.free (.seq (.ops Af0) (.keep Gx .ret))) .skip))) (.ops Af1)))
def Acl:Kp:=⟨[],[(2,false),(3,false),(6,false)],[(.loc 2 0,false),(.loc 3 0,false)],[],[]⟩
def Acp:Sig:=⟨[(2,some (.ptr (.loc 2 0) 0)),(3,some (.ptr (.loc 3 0) 0)),(6,some (.ty (.int .i64)))],[(.loc 2 0,(.box [none,none,none,none,none,none,none,none,none])),(.loc 3 0,(.box [none,none,none,none,none,none,none,none,none]))],[(.int .i64)],[],[]⟩
def Acm:Kp:=⟨[],[(2,false),(3,false)],[(.loc 2 0,false),(.loc 3 0,false)],[],[]⟩
def Acq:Sig:=⟨[(2,some (.ptr (.loc 2 0) 0)),(3,some (.ptr (.loc 3 0) 0))],[(.loc 2 0,(.box [none,none,none,none,none,none,none,none,none])),(.loc 3 0,(.box [none,none,none,none,none,none,none,none,none]))],[],[],[]⟩
def Aco:List TOp:=[oo 41 (.fld 0 (.tmp 2)),oo 42 (.load false 1 (.tmp 41)),oo 43 (.fld 0 (.tmp 3)),oo 44 (.load false 1 (.tmp 43)),oo 45 (.bin false .eql (.tmp 42) (.tmp 44)),oo 46 (.mov (.tmp 45)),og 47 46 true .bool (.fld 1 (.tmp 2)),og 48 46 true .bool (.load false 1 (.tmp 47)),og 49 46 true .bool (.fld 1 (.tmp 3)),og 50 46 true .bool (.load false 1 (.tmp 49)),og 51 46 true .bool (.bin false .eql (.tmp 48) (.tmp 50)),oo 52 (.pick (.tmp 46) (.tmp 51) (.cst (.bool false))),oo 53 (.mov (.tmp 52)),og 54 53 true .bool (.fld 2 (.tmp 2)),og 55 53 true .bool (.load false 1 (.tmp 54)),og 56 53 true .bool (.fld 2 (.tmp 3)),og 57 53 true .bool (.load false 1 (.tmp 56)),og 58 53 true .bool (.bin false .eql (.tmp 55) (.tmp 57)),oo 59 (.pick (.tmp 53) (.tmp 58) (.cst (.bool false))),oo 60 (.mov (.tmp 59)),og 61 60 true .bool (.fld 3 (.tmp 2)),og 62 60 true .bool (.load false 1 (.tmp 61)),og 63 60 true .bool (.fld 3 (.tmp 3)),og 64 60 true .bool (.load false 1 (.tmp 63)),og 65 60 true .bool (.bin false .eql (.tmp 62) (.tmp 64)),oo 66 (.pick (.tmp 60) (.tmp 65) (.cst (.bool false))),oo 67 (.mov (.tmp 66)),og 68 67 true .bool (.fld 6 (.tmp 2)),og 69 67 true .bool (.load false 1 (.tmp 68)),og 70 67 true .bool (.fld 6 (.tmp 3)),og 71 67 true .bool (.load false 1 (.tmp 70)),og 72 67 true .bool (.bin false .eql (.tmp 69) (.tmp 71)),oo 73 (.pick (.tmp 67) (.tmp 72) (.cst (.bool false))),oo 74 (.mov (.tmp 73)),og 75 74 true .bool (.fld 7 (.tmp 2)),og 76 74 true .bool (.load false 1 (.tmp 75)),og 77 74 true .bool (.fld 7 (.tmp 3)),og 78 74 true .bool (.load false 1 (.tmp 77)),og 79 74 true .bool (.bin false .eql (.tmp 76) (.tmp 78)),oo 80 (.pick (.tmp 74) (.tmp 79) (.cst (.bool false))),oo 81 (.mov (.tmp 80)),og 82 81 true .bool (.fld 8 (.tmp 2)),og 83 81 true .bool (.load false 1 (.tmp 82)),og 84 81 true .bool (.fld 8 (.tmp 3)),og 85 81 true .bool (.load false 1 (.tmp 84)),og 86 81 true .bool (.bin false .eql (.tmp 83) (.tmp 85)),oo 87 (.pick (.tmp 81) (.tmp 86) (.cst (.bool false))),oo 4 (.mov (.tmp 87))]
def Akb:TFd:=⟨2,[(.tmp 4,.bool)],[],(.seq (.ops Aft) (.seq (.ops Afu) (.seq (.seq (.ops Afv) (.cond (.tmp 22) (.free (.seq (.ops Afw) (.keep Gx .ret))) .skip)) (.seq (.seq (.ops Afx) (.joinO Acm Acq (.block 0 (.loop [2,3,6] [] Acl Acp Acn)))) (.seq (.ops Aco) (.keep Gx .ret))))))⟩
noncomputable def Mw:Ent:=⟨[.ty (.st 7),.ty (.st 7)],[],[(.st 7),(.st 7)],⟨(.ty .bool),[],[],[.bool],[],[]⟩,none,fun p=>Gg p.1 p.2⟩
theorem Ad0:Mw.ok Tryz.prog 25:=Aw hm Tryz.func25 (fd:=Akb) (by kernel_rfl) (Al (l:=[(11,En)]) (y:=[]) ⟨Gf,trivial⟩ trivial) (by kernel_rfl) (fun p=>by kernel_rfl)
def Ab3:List TOp:=[oo 4 (.mov (.cst (.bool false)))]
def Ab4:List TOp:=[oo 7 (.mov (.tmp 0)),oo 8 (.len false (.tmp 7)),oo 9 (.mov (.tmp 1)),oo 10 (.len false (.tmp 9)),oo 11 (.bin false .neq (.tmp 8) (.tmp 10))]
def Ab5:List TOp:=[oo 4 (.mov (.cst (.bool false)))]
def Gj:Kp:=⟨[],[(4,false)],[],[],[]⟩
def Ab6:List TOp:=[oo 5 (.mov (.cst (.int .i64 0)))]
def Ab7:List TOp:=[oo 12 (.mov (.tmp 5)),oo 13 (.mov (.tmp 0)),oo 14 (.len false (.tmp 13)),oo 15 (.bin false .lss (.tmp 12) (.tmp 14))]
def Ab8:List TOp:=[oo 18 (.mov (.tmp 0)),oo 19 (.mov (.tmp 5)),oo 20 (.idx 9 (.tmp 18) (.tmp 19)),ot 21 (.st 7) (.load true 9 (.tmp 20)),oo 22 (.mov (.tmp 1)),oo 23 (.mov (.tmp 5)),oo 24 (.idx 9 (.tmp 22) (.tmp 23)),ot 25 (.st 7) (.load true 9 (.tmp 24)),oo 26 (.call 0 0 (.cst (.fn 25)) [(.tmp 21),(.tmp 25)] [] []),oo 6 (.mov (.tmp 26))]
def Ab9:List TOp:=[oo 27 (.mov (.tmp 6)),oo 28 (.un .not (.tmp 27))]
def Aca:List TOp:=[oo 4 (.mov (.cst (.bool false)))]
def Acb:List TOp:=[oo 16 (.mov (.tmp 5)),oo 17 (.bin false .add (.tmp 16) (.cst (.int .i64 1))),oo 5 (.mov (.tmp 17))]
def Yi:DC:=(.seq (.seq (.ops Ab7) (.cond (.tmp 15) .skip (.exit 0))) (.seq (.pass 1 (.seq (.draw [] Ab8) (.seq (.ops Ab9) (.cond (.tmp 28) (.free (.seq (.ops Aca) (.keep Gj .ret))) .skip)))) (.ops Acb)))
def Yg:Kp:=⟨[],[(0,false),(1,false),(5,false)],[],[],[]⟩
def Yk:Sig:=⟨[(0,none),(1,none),(5,some (.ty (.int .i64)))],[],[(.int .i64)],[],[]⟩
def Yh:Kp:=⟨[],[],[],[],[]⟩
def Yl:Sig:=⟨[],[],[],[],[]⟩
def Yj:List TOp:=[oo 4 (.mov (.cst (.bool true)))]
def Ah5:TFd:=⟨2,[(.tmp 4,.bool)],[],(.seq (.ops Ab3) (.seq (.seq (.ops Ab4) (.cond (.tmp 11) (.free (.seq (.ops Ab5) (.keep Gj .ret))) .skip)) (.seq (.seq (.ops Ab6) (.joinO Yh Yl (.block 0 (.loop [0,1,5] [] Yg Yk Yi)))) (.seq (.ops Yj) (.keep Gj .ret)))))⟩
noncomputable def Lb:Ent:=⟨[.ty (.sl (.st 7)),.ty (.sl (.st 7))],[],[(.sl (.st 7)),(.sl (.st 7))],⟨(.ty .bool),[],[],[.bool],[],[]⟩,none,fun p=>Bv p.1 p.2⟩
theorem Z2:Lb.ok Tryz.prog 14:=Aw hm Tryz.func14 (fd:=Ah5) (by kernel_rfl) (Al (l:=[(25,Mw)]) (y:=[]) ⟨Ad0,trivial⟩ trivial) (by kernel_rfl) (fun p=>by kernel_rfl)
def Ad5:List TOp:=[oo 2 (.mov (.cst (.bool false)))]
def Ad6:List TOp:=[oo 4 (.mov (.tmp 0)),oo 5 (.len false (.tmp 4)),oo 6 (.bin false .gtr (.tmp 5) (.cst (.int .i64 300)))]
def Ad7:List TOp:=[oo 2 (.mov (.cst (.bool false)))]
def Gv:Kp:=⟨[],[(2,false)],[],[],[]⟩
def Ad8:List TOp:=[oo 3 (.mov (.cst (.int .i64 0)))]
def Ad9:List TOp:=[oo 7 (.mov (.tmp 3)),oo 8 (.mov (.tmp 0)),oo 9 (.len false (.tmp 8)),oo 10 (.bin false .lss (.tmp 7) (.tmp 9))]
def Aea:List TOp:=[oo 13 (.mov (.tmp 0)),oo 14 (.mov (.tmp 3)),oo 15 (.idx 2 (.tmp 13) (.tmp 14)),oo 16 (.fld 1 (.tmp 15)),oo 17 (.load false 1 (.tmp 16)),oo 18 (.len true (.tmp 17)),oo 19 (.bin false .gtr (.tmp 18) (.cst (.int .i64 300)))]
def Aeb:List TOp:=[oo 2 (.mov (.cst (.bool false)))]
def Aec:List TOp:=[oo 11 (.mov (.tmp 3)),oo 12 (.bin false .add (.tmp 11) (.cst (.int .i64 1))),oo 3 (.mov (.tmp 12))]
def Ad4:DC:=(.seq (.seq (.ops Ad9) (.cond (.tmp 10) .skip (.exit 0))) (.seq (.pass 1 (.seq (.ops Aea) (.cond (.tmp 19) (.free (.seq (.ops Aeb) (.keep Gv .ret))) .skip))) (.ops Aec)))
def Aar:Kp:=⟨[],[(0,false),(3,false)],[],[],[]⟩
def Aau:Sig:=⟨[(0,none),(3,some (.ty (.int .i64)))],[],[(.int .i64)],[],[]⟩
def Aas:Kp:=⟨[],[],[],[],[]⟩
def Aav:Sig:=⟨[],[],[],[],[]⟩
def Aat:List TOp:=[oo 2 (.mov (.cst (.bool true)))]
def Aj6:TFd:=⟨1,[(.tmp 2,.bool)],[],(.seq (.ops Ad5) (.seq (.seq (.ops Ad6) (.cond (.tmp 6) (.free (.seq (.ops Ad7) (.keep Gv .ret))) .skip)) (.seq (.seq (.ops Ad8) (.joinO Aas Aav (.block 0 (.loop [0,3] [] Aar Aau Ad4)))) (.seq (.ops Aat) (.keep Gv .ret)))))⟩
noncomputable def G9:Ent:=⟨[.ty (.sl (.st 4))],[],[(.sl (.st 4))],⟨(.ty .bool),[],[],[.bool],[],[]⟩,none,fun p=>Ee p⟩
theorem K7:G9.ok Tryz.prog 15:=Aw hm Tryz.func15 (fd:=Aj6) (by kernel_rfl) (Al (l:=[]) (y:=[]) trivial trivial) (by kernel_rfl) (fun p=>by kernel_rfl)
def Aed:List TOp:=[oo 1 (.box (.tmp 0)),oo 2 (.mov (.cst (.bool false)))]
def Aee:List TOp:=[oo 5 (.fld 5 (.tmp 1)),oo 6 (.load false 1 (.tmp 5)),oo 7 (.call 0 0 (.cst (.fn 15)) [(.tmp 6)] [] []),oo 3 (.mov (.tmp 7))]
def Aef:List TOp:=[oo 8 (.mov (.tmp 3)),oo 9 (.un .not (.tmp 8)),oo 10 (.mov (.tmp 9)),og 11 10 false .bool (.fld 4 (.tmp 1)),og 12 10 false .bool (.load false 1 (.tmp 11)),og 13 10 false .bool (.len false (.tmp 12)),og 14 10 false .bool (.bin false .gtr (.tmp 13) (.cst (.int .i64 300))),oo 15 (.pick (.tmp 10) (.cst (.bool true)) (.tmp 14)),oo 16 (.mov (.tmp 15)),og 17 16 false .bool (.fld 0 (.tmp 1)),og 18 16 false .bool (.load false 1 (.tmp 17)),og 19 16 false .bool (.len true (.tmp 18)),og 20 16 false .bool (.fld 1 (.tmp 1)),og 21 16 false .bool (.load false 1 (.tmp 20)),og 22 16 false .bool (.len true (.tmp 21)),og 23 16 false .bool (.bin false .add (.tmp 19) (.tmp 22)),og 24 16 false .bool (.fld 2 (.tmp 1)),og 25 16 false .bool (.load false 1 (.tmp 24)),og 26 16 false .bool (.len true (.tmp 25)),og 27 16 false .bool (.bin false .add (.tmp 23) (.tmp 26)),og 28 16 false .bool (.fld 3 (.tmp 1)),og 29 16 false .bool (.load false 1 (.tmp 28)),og 30 16 false .bool (.len true (.tmp 29)),og 31 16 false .bool (.bin false .add (.tmp 27) (.tmp 30)),og 32 16 false .bool (.fld 6 (.tmp 1)),og 33 16 false .bool (.load false 1 (.tmp 32)),og 34 16 false .bool (.len true (.tmp 33)),og 35 16 false .bool (.bin false .add (.tmp 31) (.tmp 34)),og 36 16 false .bool (.fld 7 (.tmp 1)),og 37 16 false .bool (.load false 1 (.tmp 36)),og 38 16 false .bool (.len true (.tmp 37)),og 39 16 false .bool (.bin false .add (.tmp 35) (.tmp 38)),og 40 16 false .bool (.fld 8 (.tmp 1)),og 41 16 false .bool (.load false 1 (.tmp 40)),og 42 16 false .bool (.len true (.tmp 41)),og 43 16 false .bool (.bin false .add (.tmp 39) (.tmp 42)),og 44 16 false .bool (.bin false .gtr (.tmp 43) (.cst (.int .i64 300))),oo 45 (.pick (.tmp 16) (.cst (.bool true)) (.tmp 44))]
def Aeg:List TOp:=[oo 2 (.mov (.cst (.bool false)))]
def Gw:Kp:=⟨[],[(2,false)],[],[],[]⟩
def Aeh:List TOp:=[oo 4 (.mov (.cst (.int .i64 0)))]
def Aei:List TOp:=[oo 46 (.mov (.tmp 4)),oo 47 (.fld 4 (.tmp 1)),oo 48 (.load false 1 (.tmp 47)),oo 49 (.len false (.tmp 48)),oo 50 (.bin false .lss (.tmp 46) (.tmp 49))]
def Aej:List TOp:=[oo 53 (.fld 4 (.tmp 1)),oo 54 (.load false 1 (.tmp 53)),oo 55 (.mov (.tmp 4)),oo 56 (.idx 2 (.tmp 54) (.tmp 55)),oo 57 (.fld 0 (.tmp 56)),oo 58 (.load false 1 (.tmp 57)),oo 59 (.len true (.tmp 58)),oo 60 (.fld 4 (.tmp 1)),oo 61 (.load false 1 (.tmp 60)),oo 62 (.mov (.tmp 4)),oo 63 (.idx 2 (.tmp 61) (.tmp 62)),oo 64 (.fld 1 (.tmp 63)),oo 65 (.load false 1 (.tmp 64)),oo 66 (.len true (.tmp 65)),oo 67 (.bin false .add (.tmp 59) (.tmp 66)),oo 68 (.bin false .gtr (.tmp 67) (.cst (.int .i64 300)))]
def Aek:List TOp:=[oo 2 (.mov (.cst (.bool false)))]
def Ael:List TOp:=[oo 51 (.mov (.tmp 4)),oo 52 (.bin false .add (.tmp 51) (.cst (.int .i64 1))),oo 4 (.mov (.tmp 52))]
def Aa8:DC:=(.seq (.seq (.ops Aei) (.cond (.tmp 50) .skip (.exit 0))) (.seq (.pass 1 (.seq (.draw [] Aej) (.cond (.tmp 68) (.free (.seq (.ops Aek) (.keep Gw .ret))) .skip))) (.ops Ael)))
def Aa6:Kp:=⟨[],[(1,false),(4,false)],[(.loc 1 0,false)],[],[]⟩
def Aba:Sig:=⟨[(1,some (.ptr (.loc 1 0) 0)),(4,some (.ty (.int .i64)))],[(.loc 1 0,(.box [none,none,none,none,none,none,none,none,none]))],[(.int .i64)],[],[]⟩
def Aa7:Kp:=⟨[],[],[],[.loc 1 0],[]⟩
def Abb:Sig:=⟨[],[],[],[],[]⟩
def Aa9:List TOp:=[oo 2 (.mov (.cst (.bool true)))]
def Aj7:TFd:=⟨1,[(.tmp 2,.bool)],[],(.seq (.ops Aed) (.seq (.ops Aee) (.seq (.seq (.ops Aef) (.cond (.tmp 45) (.free (.seq (.ops Aeg) (.keep Gw .ret))) .skip)) (.seq (.seq (.ops Aeh) (.joinO Aa7 Abb (.block 0 (.loop [1,4] [] Aa6 Aba Aa8)))) (.seq (.ops Aa9) (.keep Gw .ret))))))⟩
noncomputable def Ms:Ent:=⟨[.ty (.st 7)],[],[(.st 7)],⟨(.ty .bool),[],[],[.bool],[],[]⟩,none,fun p=>Ef p⟩
theorem Adw:Ms.ok Tryz.prog 16:=Aw hm Tryz.func16 (fd:=Aj7) (by kernel_rfl) (Al (l:=[(15,G9)]) (y:=[]) ⟨K7,trivial⟩ trivial) (by kernel_rfl) (fun p=>by kernel_rfl)
def Rj:List TOp:=[oo 6 (.mov (.cst (.bool false)))]
def Rk:List TOp:=[oo 52 (.mov (.tmp 0)),oo 53 (.call 0 0 (.cst (.fn 15)) [(.tmp 52)] [] []),oo 7 (.mov (.tmp 53))]
def Rl:List TOp:=[oo 54 (.mov (.tmp 7)),oo 55 (.un .not (.tmp 54)),oo 56 (.mov (.tmp 55)),og 57 56 false .bool (.mov (.tmp 1)),og 58 56 false .bool (.len false (.tmp 57)),og 59 56 false .bool (.bin false .gtr (.tmp 58) (.cst (.int .i64 20))),oo 60 (.pick (.tmp 56) (.cst (.bool true)) (.tmp 59)),oo 61 (.mov (.tmp 60)),og 62 61 false .bool (.mov (.tmp 2)),og 63 61 false .bool (.len true (.tmp 62)),og 64 61 false .bool (.bin false .gtr (.tmp 63) (.cst (.int .i64 9000))),oo 65 (.pick (.tmp 61) (.cst (.bool true)) (.tmp 64))]
def Rm:List TOp:=[oo 66 (.call 0 0 (.cst (.fn 8)) [] [] []),oo 6 (.mov (.tmp 66))]
def Bm:Kp:=⟨[],[(6,false)],[],[],[]⟩
def Rn:List TOp:=[oo 8 (.mov (.cst (.int .i64 0)))]
def Ro:List TOp:=[oo 67 (.mov (.tmp 8)),oo 68 (.mov (.tmp 1)),oo 69 (.len false (.tmp 68)),oo 70 (.bin false .lss (.tmp 67) (.tmp 69))]
def Rp:List TOp:=[oo 73 (.mov (.tmp 1)),oo 74 (.mov (.tmp 8)),oo 75 (.idx 9 (.tmp 73) (.tmp 74)),ot 76 (.st 7) (.load true 9 (.tmp 75)),oo 77 (.call 0 0 (.cst (.fn 16)) [(.tmp 76)] [] []),oo 9 (.mov (.tmp 77))]
def Rq:List TOp:=[oo 78 (.mov (.tmp 9)),oo 79 (.un .not (.tmp 78))]
def Rr:List TOp:=[oo 80 (.call 0 0 (.cst (.fn 8)) [] [] []),oo 6 (.mov (.tmp 80))]
def O1:List TOp:=[oo 71 (.mov (.tmp 8)),oo 72 (.bin false .add (.tmp 71) (.cst (.int .i64 1))),oo 8 (.mov (.tmp 72))]
def O0:DC:=(.seq (.seq (.ops Ro) (.cond (.tmp 70) .skip (.exit 0))) (.seq (.pass 1 (.seq (.ops Rp) (.seq (.ops Rq) (.cond (.tmp 79) (.free (.seq (.ops Rr) (.keep Bm .ret))) .skip)))) (.ops O1)))
def Ox:Kp:=⟨[],[(0,false),(1,false),(2,false),(8,false)],[],[],[]⟩
def Pv:Sig:=⟨[(0,none),(1,none),(2,none),(8,some (.ty (.int .i64)))],[],[(.int .i64)],[],[]⟩
def Oy:Kp:=⟨[],[(0,false),(1,false),(2,false)],[],[],[]⟩
def Pw:Sig:=⟨[(0,none),(1,none),(2,none)],[],[],[],[]⟩
def O2:List TOp:=[oo 82 (.mov (.tmp 0)),oo 83 (.call 0 0 (.cst (.fn 17)) [(.tmp 82)] [] []),oo 81 (.mov (.tmp 83)),oo 84 (.ext 0 (.tmp 81)),oo 85 (.ext 1 (.tmp 81)),oo 10 (.mov (.tmp 84)),oo 11 (.mov (.tmp 85))]
def O3:List TOp:=[oo 87 (.mov (.tmp 10)),oo 88 (.call 0 0 (.cst (.fn 26)) [(.tmp 87)] [] []),oo 86 (.mov (.tmp 88)),oo 89 (.ext 0 (.tmp 86)),oo 90 (.ext 1 (.tmp 86)),oo 91 (.ext 2 (.tmp 86)),oo 12 (.mov (.tmp 89)),oo 13 (.mov (.tmp 90)),oo 14 (.mov (.tmp 91))]
def O4:List TOp:=[oo 92 (.mov (.tmp 11)),oo 93 (.bin false .eql (.tmp 92) (.cst (.int .i64 0))),oo 94 (.mov (.tmp 93)),og 95 94 true .bool (.mov (.tmp 14)),og 96 94 true .bool (.bin false .eql (.tmp 95) (.cst (.int .i64 0))),oo 97 (.pick (.tmp 94) (.tmp 96) (.cst (.bool false)))]
def O5:List TOp:=[oo 99 (.mov (.tmp 10)),oo 100 (.call 0 0 (.cst (.fn 9)) [(.tmp 99)] [] []),oo 98 (.mov (.tmp 100)),oo 101 (.ext 0 (.tmp 98)),oo 102 (.ext 1 (.tmp 98)),oo 103 (.ext 2 (.tmp 98)),oo 104 (.ext 3 (.tmp 98)),oo 15 (.mov (.tmp 101)),oo 16 (.mov (.tmp 102)),oo 17 (.mov (.tmp 103)),oo 18 (.mov (.tmp 104))]
def O6:List TOp:=[oo 105 (.mov (.tmp 15)),oo 106 (.mov (.tmp 0)),oo 107 (.call 0 0 (.cst (.fn 11)) [(.tmp 105),(.tmp 106)] [] []),oo 19 (.mov (.tmp 107))]
def O7:List TOp:=[oo 108 (.mov (.tmp 18)),oo 109 (.bin false .neq (.tmp 108) (.cst (.int .i64 0))),oo 110 (.mov (.tmp 109)),og 111 110 false .bool (.mov (.tmp 19)),og 112 110 false .bool (.un .not (.tmp 111)),oo 113 (.pick (.tmp 110) (.cst (.bool true)) (.tmp 112)),oo 114 (.mov (.tmp 113)),og 115 114 false .bool (.mov (.tmp 16)),og 116 114 false .bool (.bin false .neq (.tmp 115) (.cst (.int .i64 0))),oo 117 (.pick (.tmp 114) (.cst (.bool true)) (.tmp 116)),oo 118 (.mov (.tmp 117)),og 119 118 false .bool (.mov (.tmp 17)),og 120 118 false .bool (.bin false .neq (.tmp 119) (.cst (.int .i64 0))),oo 121 (.pick (.tmp 118) (.cst (.bool true)) (.tmp 120))]
def O8:List TOp:=[oo 6 (.mov (.cst (.bool false)))]
def Oz:Kp:=⟨[],[(1,false),(2,false)],[],[],[]⟩
def Px:Sig:=⟨[(1,none),(2,none)],[],[],[],[]⟩
def O9:List TOp:=[oo 123 (.mov (.tmp 1)),oo 124 (.call 0 0 (.cst (.fn 19)) [(.tmp 123)] [] []),oo 122 (.mov (.tmp 124)),oo 125 (.ext 0 (.tmp 122)),oo 126 (.ext 1 (.tmp 122)),oo 20 (.mov (.tmp 125)),oo 21 (.mov (.tmp 126))]
def Pa:List TOp:=[oo 128 (.mov (.tmp 20)),oo 129 (.call 0 0 (.cst (.fn 26)) [(.tmp 128)] [] []),oo 127 (.mov (.tmp 129)),oo 130 (.ext 0 (.tmp 127)),oo 131 (.ext 1 (.tmp 127)),oo 132 (.ext 2 (.tmp 127)),oo 22 (.mov (.tmp 130)),oo 23 (.mov (.tmp 131)),oo 24 (.mov (.tmp 132))]
def Pb:List TOp:=[oo 133 (.mov (.tmp 21)),oo 134 (.bin false .eql (.tmp 133) (.cst (.int .i64 0))),oo 135 (.mov (.tmp 134)),og 136 135 true .bool (.mov (.tmp 24)),og 137 135 true .bool (.bin false .eql (.tmp 136) (.cst (.int .i64 0))),oo 138 (.pick (.tmp 135) (.tmp 137) (.cst (.bool false)))]
def Pd:List TOp:=[oo 140 (.mov (.tmp 20)),oo 141 (.call 0 0 (.cst (.fn 12)) [(.tmp 140)] [] []),oo 139 (.mov (.tmp 141)),oo 142 (.ext 0 (.tmp 139)),oo 143 (.ext 1 (.tmp 139)),oo 144 (.ext 2 (.tmp 139)),oo 145 (.ext 3 (.tmp 139)),oo 25 (.mov (.tmp 142)),oo 26 (.mov (.tmp 143)),oo 27 (.mov (.tmp 144)),oo 28 (.mov (.tmp 145))]
def Pe:List TOp:=[oo 146 (.mov (.tmp 25)),oo 147 (.mov (.tmp 1)),oo 148 (.call 0 0 (.cst (.fn 14)) [(.tmp 146),(.tmp 147)] [] []),oo 29 (.mov (.tmp 148))]
def Pf:List TOp:=[oo 149 (.mov (.tmp 28)),oo 150 (.bin false .neq (.tmp 149) (.cst (.int .i64 0))),oo 151 (.mov (.tmp 150)),og 152 151 false .bool (.mov (.tmp 29)),og 153 151 false .bool (.un .not (.tmp 152)),oo 154 (.pick (.tmp 151) (.cst (.bool true)) (.tmp 153))]
def Pg:List TOp:=[oo 6 (.mov (.cst (.bool false)))]
def G2:Kp:=⟨[],[(2,false)],[],[],[]⟩
def G3:Sig:=⟨[(2,none)],[],[],[],[]⟩
def Ph:List TOp:=[oo 156 (.mov (.tmp 2)),oo 157 (.call 0 0 (.cst (.fn 9)) [(.tmp 156)] [] []),oo 155 (.mov (.tmp 157)),oo 158 (.ext 0 (.tmp 155)),oo 159 (.ext 1 (.tmp 155)),oo 160 (.ext 2 (.tmp 155)),oo 161 (.ext 3 (.tmp 155)),oo 30 (.mov (.tmp 158)),oo 31 (.mov (.tmp 159)),oo 32 (.mov (.tmp 160)),oo 33 (.mov (.tmp 161))]
def Pi:List TOp:=[oo 162 (.mov (.tmp 33)),oo 163 (.bin false .eql (.tmp 162) (.cst (.int .i64 0)))]
def Pj:List TOp:=[oo 165 (.mov (.tmp 30)),oo 166 (.call 0 0 (.cst (.fn 17)) [(.tmp 165)] [] []),oo 164 (.mov (.tmp 166)),oo 167 (.ext 0 (.tmp 164)),oo 168 (.ext 1 (.tmp 164)),oo 34 (.mov (.tmp 167)),oo 35 (.mov (.tmp 168))]
def Pk:List TOp:=[oo 170 (.mov (.tmp 34)),oo 171 (.call 0 0 (.cst (.fn 9)) [(.tmp 170)] [] []),oo 169 (.mov (.tmp 171)),oo 172 (.ext 0 (.tmp 169)),oo 173 (.ext 1 (.tmp 169)),oo 174 (.ext 2 (.tmp 169)),oo 175 (.ext 3 (.tmp 169)),oo 36 (.mov (.tmp 172)),oo 37 (.mov (.tmp 173)),oo 38 (.mov (.tmp 174)),oo 39 (.mov (.tmp 175))]
def Pl:List TOp:=[oo 176 (.mov (.tmp 36)),oo 177 (.mov (.tmp 30)),oo 178 (.call 0 0 (.cst (.fn 11)) [(.tmp 176),(.tmp 177)] [] []),oo 40 (.mov (.tmp 178))]
def Pm:List TOp:=[oo 179 (.mov (.tmp 35)),oo 180 (.bin false .neq (.tmp 179) (.cst (.int .i64 0))),oo 181 (.mov (.tmp 180)),og 182 181 false .bool (.mov (.tmp 39)),og 183 181 false .bool (.bin false .eql (.tmp 182) (.cst (.int .i64 0))),og 184 181 false .bool (.mov (.tmp 183)),og 185 184 true .bool (.mov (.tmp 40)),og 186 184 true .bool (.un .not (.tmp 185)),og 187 181 false .bool (.pick (.tmp 184) (.tmp 186) (.cst (.bool false))),oo 188 (.pick (.tmp 181) (.cst (.bool true)) (.tmp 187)),oo 189 (.mov (.tmp 188)),og 190 189 false .bool (.mov (.tmp 39)),og 191 189 false .bool (.bin false .eql (.tmp 190) (.cst (.int .i64 14))),oo 192 (.pick (.tmp 189) (.cst (.bool true)) (.tmp 191)),oo 193 (.mov (.tmp 192)),og 194 193 false .bool (.mov (.tmp 39)),og 195 193 false .bool (.bin false .eql (.tmp 194) (.cst (.int .i64 3))),oo 196 (.pick (.tmp 193) (.cst (.bool true)) (.tmp 195))]
def Pn:List TOp:=[oo 6 (.mov (.cst (.bool false)))]
def Po:List TOp:=[oo 198 (.mov (.tmp 2)),oo 199 (.call 0 0 (.cst (.fn 12)) [(.tmp 198)] [] []),oo 197 (.mov (.tmp 199)),oo 200 (.ext 0 (.tmp 197)),oo 201 (.ext 1 (.tmp 197)),oo 202 (.ext 2 (.tmp 197)),oo 203 (.ext 3 (.tmp 197)),oo 41 (.mov (.tmp 200)),oo 42 (.mov (.tmp 201)),oo 43 (.mov (.tmp 202)),oo 44 (.mov (.tmp 203))]
def Pp:List TOp:=[oo 204 (.mov (.tmp 44)),oo 205 (.bin false .neq (.tmp 204) (.cst (.int .i64 0)))]
def Pq:List TOp:=[oo 206 (.call 0 0 (.cst (.fn 8)) [] [] []),oo 207 (.mov (.tmp 206)),og 208 207 true .bool (.mov (.tmp 41)),og 209 207 true .bool (.len false (.tmp 208)),og 210 207 true .bool (.bin false .eql (.tmp 209) (.cst (.int .i64 0))),oo 211 (.pick (.tmp 207) (.tmp 210) (.cst (.bool false))),oo 6 (.mov (.tmp 211))]
def Pr:List TOp:=[oo 213 (.mov (.tmp 41)),oo 214 (.call 0 0 (.cst (.fn 19)) [(.tmp 213)] [] []),oo 212 (.mov (.tmp 214)),oo 215 (.ext 0 (.tmp 212)),oo 216 (.ext 1 (.tmp 212)),oo 45 (.mov (.tmp 215)),oo 46 (.mov (.tmp 216))]
def Ps:List TOp:=[oo 218 (.mov (.tmp 45)),oo 219 (.call 0 0 (.cst (.fn 12)) [(.tmp 218)] [] []),oo 217 (.mov (.tmp 219)),oo 220 (.ext 0 (.tmp 217)),oo 221 (.ext 1 (.tmp 217)),oo 222 (.ext 2 (.tmp 217)),oo 223 (.ext 3 (.tmp 217)),oo 47 (.mov (.tmp 220)),oo 48 (.mov (.tmp 221)),oo 49 (.mov (.tmp 222)),oo 50 (.mov (.tmp 223))]
def Pt:List TOp:=[oo 224 (.mov (.tmp 47)),oo 225 (.mov (.tmp 41)),oo 226 (.call 0 0 (.cst (.fn 14)) [(.tmp 224),(.tmp 225)] [] []),oo 51 (.mov (.tmp 226))]
def Pu:List TOp:=[oo 227 (.call 0 0 (.cst (.fn 8)) [] [] []),oo 228 (.mov (.tmp 227)),og 229 228 true .bool (.mov (.tmp 46)),og 230 228 true .bool (.bin false .eql (.tmp 229) (.cst (.int .i64 0))),oo 231 (.pick (.tmp 228) (.tmp 230) (.cst (.bool false))),oo 232 (.mov (.tmp 231)),og 233 232 true .bool (.mov (.tmp 50)),og 234 232 true .bool (.bin false .neq (.tmp 233) (.cst (.int .i64 0))),og 235 232 true .bool (.mov (.tmp 234)),og 236 235 false .bool (.mov (.tmp 51)),og 237 232 true .bool (.pick (.tmp 235) (.cst (.bool true)) (.tmp 236)),oo 238 (.pick (.tmp 232) (.tmp 237) (.cst (.bool false))),oo 239 (.mov (.tmp 238)),og 240 239 true .bool (.mov (.tmp 50)),og 241 239 true .bool (.bin false .neq (.tmp 240) (.cst (.int .i64 14))),oo 242 (.pick (.tmp 239) (.tmp 241) (.cst (.bool false))),oo 243 (.mov (.tmp 242)),og 244 243 true .bool (.mov (.tmp 50)),og 245 243 true .bool (.bin false .neq (.tmp 244) (.cst (.int .i64 3))),oo 246 (.pick (.tmp 243) (.tmp 245) (.cst (.bool false))),oo 6 (.mov (.tmp 246))]
def Um:TFd:=⟨3,[(.tmp 6,.bool)],[],(.seq (.ops Rj) (.seq (.ops Rk) (.seq (.seq (.ops Rl) (.cond (.tmp 65) (.free (.seq (.ops Rm) (.keep Bm .ret))) .skip)) (.seq (.seq (.ops Rn) (.joinO Oy Pw (.block 0 (.loop [0,1,2,8] [] Ox Pv O0)))) (.seq (.ops O2) (.seq (.ops O3) (.seq (.seq (.ops O4) (.joinO Oz Px (.cond (.tmp 97) (.seq (.ops O5) (.seq (.ops O6) (.seq (.ops O7) (.cond (.tmp 121) (.free (.seq (.ops O8) (.keep Bm .ret))) .skip)))) .skip))) (.seq (.ops O9) (.seq (.ops Pa) (.seq (.seq (.ops Pb) (.joinO G2 G3 (.cond (.tmp 138) (.seq (.ops Pd) (.seq (.ops Pe) (.seq (.ops Pf) (.cond (.tmp 154) (.free (.seq (.ops Pg) (.keep Bm .ret))) .skip)))) .skip))) (.seq (.ops Ph) (.seq (.seq (.ops Pi) (.joinO G2 G3 (.cond (.tmp 163) (.seq (.ops Pj) (.seq (.ops Pk) (.seq (.ops Pl) (.seq (.ops Pm) (.cond (.tmp 196) (.free (.seq (.ops Pn) (.keep Bm .ret))) .skip))))) .skip))) (.seq (.ops Po) (.seq (.seq (.ops Pp) (.cond (.tmp 205) (.free (.seq (.ops Pq) (.keep Bm .ret))) .skip)) (.seq (.ops Pr) (.seq (.ops Ps) (.seq (.ops Pt) (.seq (.ops Pu) (.keep Bm .ret)))))))))))))))))))⟩
noncomputable def Su:Ent:=⟨[.ty (.sl (.st 4)),.ty (.sl (.st 7)),.ty .str],[],[(.sl (.st 4)),(.sl (.st 7)),.str],⟨(.ty .bool),[],[],[.bool],[],[]⟩,none,fun p=>Ds p.1 p.2.1 p.2.2⟩
theorem Q6:Su.ok Tryz.prog 6:=Aw hm Tryz.func6 (fd:=Um) (by kernel_rfl) (Al (l:=[(15,G9),(8,K8),(16,Ms),(17,Uj),(26,Od),(9,Aam),(11,En),(19,Ll),(12,Ahj),(14,Lb)]) (y:=[]) ⟨K7,Zz,Adw,Ahl,Agt,Alh,Gf,T3,Aot,Z2,trivial⟩ trivial) (by kernel_rfl) (fun p=>by kernel_rfl)
abbrev Nd:=Aa
abbrev Tk:=Ac
abbrev By:=List UInt8
def sIf:By:=[105,102]
def Sh:By:=[116,104,101,110]
def Nz:By:=[101,108,115,101]
def Bbw:By:=[97,110,100]
def sOr:By:=[111,114]
def Ob:By:=[110,111,116]
def Jf:By:=[109,105,110]
def H2:By:=[109,97,120]
def isT(s:By)(ts:List Tk):Bool:=match ts with
 |[]=>false
 |t::_=>decide (t.Ad≠2∧t.Ag=s)
def Apn(s:By):Int×Nat:=
 if s=sOr then(13,1) else if s=Bbw then(12,2) else if s=[60] then(7,4) else if s=[60,61] then(8,4)
 else if s=[61] then(9,4) else if s=[62] then(10,4) else if s=[62,61] then(11,4)
 else if s=[43] then(3,5) else if s=[45] then(4,5) else if s=[42] then(5,6) else if s=[47] then(6,6) else(0,0)
def Br(t:Tk):Int×Nat:=if t.Ad=2 then(0,0) else Apn t.Ag
def Br4:List By:=[sIf,Sh,Nz,Bbw,sOr,Ob,Jf,H2]
def Br5:List By:=[[112,114,111,100,117,99,116],[98,97,115,105,115],[112,101,114,105,111,100],[116,105,101,114,115],[102,101,101],[109,105,110,105,109,117,109],[111,118,101,114,100,114,97,102,116],[110,111,116,105,99,101]]
def Aqr(s:By)(p:Bool):Bool:=Br4.contains s||(p&&Br5.contains s)
abbrev Rs(α:Type):=Option α×List Tk
def bnd{α β:Type}(r:Rs α)(k:α→List Tk→Rs β):Rs β:=match r with
 |(some a,i)=>k a i
 |(none,i)=>(none,i)
def H4{β:Type}(s:By)(ts:List Tk)(k:List Tk→Rs β):Rs β:=if isT s ts=true then k ts.tail else(none,ts)
abbrev Ans:=List Tk→Nat→Rs (List Nd)
def Db(rec:Ans)(ts:List Tk):Rs (List Nd):=match ts with
 |[]=>(none,[])
 |t::r=>
  if isT [40] (t::r)=true then bnd (rec r 0) fun a i=>H4 [41] i fun j=>(some a,j)
  else if (isT Jf (t::r)||isT H2 (t::r))=true then
   H4 [40] r fun r2=>bnd (rec r2 0) fun a i=>H4 [44] i fun i2=>bnd (rec i2 0) fun b j=>H4 [41] j fun j2=>
    (some (⟨if t.Ag=Jf then 16 else 17,[]⟩::(a++b)),j2)
  else if t.Ad=1 then
   if isT [37] r=true then(some [⟨0,t.Ag++[37]⟩],r.tail) else(some [⟨0,t.Ag⟩],r)
  else if t.Ad=0∧Aqr t.Ag false=false then(some [⟨1,t.Ag⟩],r)
  else(none,t::r)
def Cb(rec:Ans)(ts:List Tk)(n:Nat):Rs (List Nd×Nat):=
 if n=0∧isT sIf ts=true then
  bnd (rec ts.tail 0) fun a i=>H4 Sh i fun i2=>bnd (rec i2 0) fun b j=>H4 Nz j fun j2=>bnd (rec j2 0) fun c k=>
   (some (⟨15,[]⟩::(a++b++c),0),k)
 else if n≤3∧isT Ob ts=true then bnd (rec ts.tail 3) fun a i=>(some (⟨14,[]⟩::a,3),i)
 else if isT [45] ts=true then bnd (rec ts.tail 7) fun a i=>(some (⟨2,[]⟩::a,7),i)
 else bnd (Db rec ts) fun a i=>(some (a,8),i)
def Km(m:Nat):Nat:=if m=4 then 5 else m
def Cc(rec:Ans)(n:Nat):Nat→List Nd→Nat→List Tk→Rs (List Nd×Nat)
 |_,out,own,[]=>(some (out,own),[])
 |0,out,own,t::r=>(some (out,own),t::r)
 |f+1,out,own,t::r=>
  if (Br t).2=0∨(Br t).2<n∨own<Km (Br t).2 then(some (out,own),t::r)
  else bnd (rec r ((Br t).2+1)) fun b j=>Cc rec n f (⟨(Br t).1,[]⟩::(out++b)) (Br t).2 j
def Hb:Nat→Ans
 |0,ts,n=>(none,ts)
 |f+1,ts,n=>bnd (Cb (Hb f) ts n) fun x i=>bnd (Cc (Hb f) n i.length x.1 x.2 i) fun y j=>(some y.1,j)
def CL(ts:List Tk)(n:Nat):Rs (List Nd):=Hb (ts.length+1) ts n
theorem Ik{α β:Type}{r:Rs α}{k:α→List Tk→Rs β}{ts:List Tk}(h:r.2 <:+ ts)(hk: ∀a i,i <:+ ts→(k a i).2 <:+ ts):(bnd r k).2 <:+ ts:=by
 obtain⟨o,i⟩:=r
 cases o with
 |none=>exact h
 |some a=>exact hk a i h
theorem Sr{ts:List Tk}:ts.tail <:+ ts:=List.tail_suffix ts
theorem Zr{β:Type}{s:By}{ts:List Tk}{k:List Tk→Rs β}{u:List Tk}(h:ts <:+ u)(hk: ∀i,i <:+ u→(k i).2 <:+ u):(H4 s ts k).2 <:+ u:=by
 unfold H4
 split
 ·exact hk _ (Sr.trans h)
 ·exact h
theorem Bm7{rec:Ans}(hr: ∀ts n,(rec ts n).2 <:+ ts)(ts:List Tk):(Db rec ts).2 <:+ ts:=by
 cases ts with
 |nil=>exact List.suffix_refl _
 |cons t r=>
  have hc:r <:+ t::r:=List.suffix_cons t r
  unfold Db
  simp only
  split
  ·exact Ik ((hr _ _).trans hc) fun a i hi=>Zr hi fun j hj=>hj
  ·split
   ·exact Zr hc fun r2 h2=>Ik ((hr _ _).trans h2) fun a i hi=>Zr hi fun i2 hi2=>Ik ((hr _ _).trans hi2) fun b j hj=>Zr hj fun j2 hj2=>hj2
   ·split
    ·split
     ·exact Sr.trans hc
     ·exact hc
    ·split
     ·exact hc
     ·exact List.suffix_refl _
theorem Aqa{rec:Ans}(hr: ∀ts n,(rec ts n).2 <:+ ts)(ts:List Tk)(n:Nat):(Cb rec ts n).2 <:+ ts:=by
 unfold Cb
 split
 ·exact Ik ((hr _ _).trans Sr) fun a i hi=>Zr hi fun i2 hi2=>Ik ((hr _ _).trans hi2) fun b j hj=>Zr hj fun j2 hj2=>Ik ((hr _ _).trans hj2) fun c k hk=>hk
 ·split
  ·exact Ik ((hr _ _).trans Sr) fun a i hi=>hi
  ·split
   ·exact Ik ((hr _ _).trans Sr) fun a i hi=>hi
   ·exact Ik (Bm7 hr ts) fun a i hi=>hi
theorem Avf{rec:Ans}(hr: ∀ts n,(rec ts n).2 <:+ ts)(n:Nat): ∀(f:Nat) (out:List Nd) (own:Nat) (ts:List Tk),(Cc rec n f out own ts).2 <:+ ts
 |f,out,own,[]=>by cases f<;>exact List.suffix_refl _
 |0,out,own,t::r=>List.suffix_refl _
 |f+1,out,own,t::r=>by
  unfold Cc
  split
  ·exact List.suffix_refl _
  ·exact Ik ((hr _ _).trans (List.suffix_cons t r)) fun b j hj=>(Avf hr n f _ _ j).trans hj
theorem Hq: ∀(f:Nat) (ts:List Tk) (n:Nat),(Hb f ts n).2 <:+ ts
 |0,ts,n=>List.suffix_refl _
 |f+1,ts,n=>by
  unfold Hb
  exact Ik (Aqa (Hq f) ts n) fun x i hi=>Ik ((Avf (Hq f) n _ _ _ _).trans hi) fun y j hj=>hj
def Lt{α:Type}(r:Rs α)(n:Nat):Prop:=r.1≠none→r.2.length<n
theorem Zx{α β:Type}{r:Rs α}{k:α→List Tk→Rs β}{n:Nat}(hk: ∀a,r.1=some a→Lt (k a r.2) n):Lt (bnd r k) n:=by
 obtain⟨o,i⟩:=r
 cases o with
 |none=>intro h;exact absurd rfl h
 |some a=>exact hk a rfl
theorem Aj0{β:Type}{s:By}{ts:List Tk}{k:List Tk→Rs β}{n:Nat}(hk:Lt (k ts.tail) n):Lt (H4 s ts k) n:=by
 unfold H4
 split
 ·exact hk
 ·intro h;exact absurd rfl h
theorem Ql{α:Type}{a:α}{i:List Tk}{n:Nat}(h:i.length<n):Lt ((some a,i):Rs α) n:=fun _=>h
theorem Bhs{α:Type}{i:List Tk}{n:Nat}:Lt ((none,i):Rs α) n:=fun h=>absurd rfl h
def Agree(f g:Ans)(n:Nat):Prop:= ∀ts k,ts.length<n→f ts k=g ts k
theorem Bh{α β:Type}{r r':Rs α}{k k':α→List Tk→Rs β}(h:r=r')(hk: ∀a,r.1=some a→k a r.2=k' a r.2):bnd r k=bnd r' k':=by
 subst h
 obtain⟨o,i⟩:=r
 cases o with
 |none=>rfl
 |some a=>exact hk a rfl
theorem Jr{s:By}{ts:List Tk}(h:isT s ts=true):ts.tail.length+1=ts.length:=by
 cases ts with
 |nil=>cases h
 |cons t r=>rfl
theorem Adp{β:Type}{s:By}{ts:List Tk}{k k':List Tk→Rs β}(hk:isT s ts=true→k ts.tail=k' ts.tail):H4 s ts k=H4 s ts k':=by
 unfold H4
 split
 ·exact hk (by assumption)
 ·rfl
theorem Bfd{f g:Ans}(hr: ∀ts n,(f ts n).2 <:+ ts){ts:List Tk}(h:Agree f g ts.length):Db f ts=Db g ts:=by
 cases ts with
 |nil=>rfl
 |cons t r=>
  unfold Db
  simp only
  have hl: ∀i:List Tk,i.length≤r.length→ ∀k,f i k=g i k:=fun i hi k=>h i k (by simp;omega)
  split
  ·exact Bh (hl _ (Nat.le_refl _) _) fun a ha=>rfl
  ·split
   ·refine Adp fun hw=>?_
    have hw:=Jr hw
    refine Bh (hl _ (by omega) _) fun a ha=>?_
    have hf:=(hr r.tail 0).length_le
    refine Adp fun hw2=>?_
    have hw2:=Jr hw2
    exact Bh (hl _ (by omega) _) fun b hb=>rfl
   ·rfl
theorem Arp{f g:Ans}(hr: ∀ts n,(f ts n).2 <:+ ts){ts:List Tk}(n:Nat)(h:Agree f g ts.length):Cb f ts n=Cb g ts n:=by
 unfold Cb
 have hl: ∀i:List Tk,i.length<ts.length→ ∀k,f i k=g i k:=fun i hi k=>h i k hi
 split
 ·rename_i hw
  have hw:=Jr hw.2
  refine Bh (hl _ (by omega) _) fun a ha=>?_
  have h1:=(hr ts.tail 0).length_le
  refine Adp fun hw2=>?_
  have hw2:=Jr hw2
  refine Bh (hl _ (by omega) _) fun b hb=>?_
  have h2:=(hr (f ts.tail 0).2.tail 0).length_le
  refine Adp fun hw3=>?_
  have hw3:=Jr hw3
  exact Bh (hl _ (by omega) _) fun c hc=>rfl
 ·split
  ·rename_i hw
   have hw:=Jr hw.2
   exact Bh (hl _ (by omega) _) fun a ha=>rfl
  ·split
   ·rename_i hw
    have hw:=Jr hw
    exact Bh (hl _ (by omega) _) fun a ha=>rfl
   ·exact Bh (Bfd hr h) fun a ha=>rfl
theorem Aae{f g:Ans}(hr: ∀ts n,(f ts n).2 <:+ ts)(n:Nat): ∀(a b:Nat) (out:List Nd) (own:Nat) (ts:List Tk),Agree f g ts.length→ts.length≤a→ts.length≤b→Cc f n a out own ts=Cc g n b out own ts
 |a,b,out,own,[],_,_,_=>by cases a<;>cases b<;>rfl
 |0,_,out,own,t::r,_,h,_=>absurd h (by simp)
 |_,0,out,own,t::r,_,_,h=>absurd h (by simp)
 |a+1,b+1,out,own,t::r,h,ha,hb=>by
  unfold Cc
  split
  ·rfl
  ·have h1:=(hr r ((Br t).2+1)).length_le
   simp only[List.length_cons] at ha hb
   exact Bh (h _ _ (by simp)) fun x hx=>Aae hr n a b _ _ _ (fun i k hi=>h i k (by simp;omega)) (by omega) (by omega)
theorem Ari: ∀(f g:Nat) (ts:List Tk) (n:Nat),ts.length<f→ts.length<g→Hb f ts n=Hb g ts n
 |0,_,ts,n,h,_=>absurd h (by simp)
 |_,0,ts,n,_,h=>absurd h (by simp)
 |f+1,g+1,ts,n,hf,hg=>by
  unfold Hb
  have hag:Agree (Hb f) (Hb g) ts.length:=fun i k hi=>Ari f g i k (by omega) (by omega)
  refine Bh (Arp (Hq f) n hag) fun x hx=>?_
  have hs:=(Aqa (Hq f) ts n).length_le
  exact Bh (Aae (Hq f) n _ _ _ _ _ (fun i k hi=>hag i k (by omega)) (Nat.le_refl _) (Nat.le_refl _)) fun y hy=>rfl
theorem Bso{f:Nat}{ts:List Tk}(h:ts.length<f)(n:Nat):Hb f ts n=CL ts n:=Ari _ _ _ _ h (by omega)
theorem Gb(ts:List Tk)(n:Nat):(CL ts n).2 <:+ ts:=Hq _ _ _
theorem Q1(ts:List Tk)(n:Nat):CL ts n=bnd (Cb CL ts n) fun x i=>bnd (Cc CL n i.length x.1 x.2 i) fun y j=>(some y.1,j):=by
 have hag:Agree (Hb ts.length) CL ts.length:=fun i k hi=>Bso hi k
 show Hb (ts.length+1) ts n=_
 unfold Hb
 refine Bh (Arp (Hq _) n hag) fun x hx=>?_
 have hs:=(Aqa (Hq ts.length) ts n).length_le
 exact Bh (Aae (Hq _) n _ _ _ _ _ (fun i k hi=>hag i k (by omega)) (Nat.le_refl _) (Nat.le_refl _)) fun y hy=>rfl
theorem Bpq(ts:List Tk):Lt (Db CL ts) ts.length:=by
 cases ts with
 |nil=>exact Bhs
 |cons t r=>
  have hs:=fun i k=>(Gb i k).length_le
  have ht: ∀i:List Tk,i.tail.length≤i.length:=fun i=>by simp
  unfold Db
  simp only[List.length_cons]
  split
  ·refine Zx fun a ha=>Aj0 (Ql ?_)
   have:=hs r 0;have:=ht (CL r 0).2
   omega
  ·split
   ·refine Aj0 (Zx fun a ha=>Aj0 (Zx fun b hb=>Aj0 (Ql ?_)))
    have:=ht r;have:=hs r.tail 0;have:=ht (CL r.tail 0).2;have:=hs (CL r.tail 0).2.tail 0;have:=ht (CL (CL r.tail 0).2.tail 0).2
    omega
   ·split
    ·split
     ·refine Ql ?_
      have:=ht r
      omega
     ·exact Ql (by omega)
    ·split
     ·exact Ql (by omega)
     ·exact Bhs
theorem Bls(ts:List Tk)(n:Nat):Lt (Cb CL ts n) ts.length:=by
 have hs:=fun i k=>(Gb i k).length_le
 have ht: ∀i:List Tk,i.tail.length≤i.length:=fun i=>by simp
 unfold Cb
 split
 ·rename_i hw
  have hw:=Jr hw.2
  refine Zx fun a ha=>Aj0 (Zx fun b hb=>Aj0 (Zx fun c hc=>Ql ?_))
  have:=hs ts.tail 0;have:=ht (CL ts.tail 0).2;have:=hs (CL ts.tail 0).2.tail 0;have:=ht (CL (CL ts.tail 0).2.tail 0).2;have:=hs (CL (CL ts.tail 0).2.tail 0).2.tail 0
  omega
 ·split
  ·rename_i hw
   have hw:=Jr hw.2
   refine Zx fun a ha=>Ql ?_
   have:=hs ts.tail 3
   omega
  ·split
   ·rename_i hw
    have hw:=Jr hw
    refine Zx fun a ha=>Ql ?_
    have:=hs ts.tail 7
    omega
   ·refine Zx fun a ha=>Ql ?_
    exact Bpq ts (by rw[ha];simp)
theorem Bra(n:Nat):CL [] n=(none,[]):=by
 rw[Q1]
 simp[Cb,isT,Db,bnd]
theorem Bp7(s:By):(Apn s).2=0∨(Apn s).2=1∨(Apn s).2=2∨(Apn s).2=4∨(Apn s).2=5∨(Apn s).2=6:=by
 unfold Apn
 repeat' split
 all_goals simp
theorem Mo(t:Tk):(Br t).2=0∨(Br t).2=1∨(Br t).2=2∨(Br t).2=4∨(Br t).2=5∨(Br t).2=6:=by
 unfold Br
 split
 ·exact Or.inl rfl
 ·exact Bp7 _
theorem Hp{α β γ:Type}(r:Rs α)(k:α→List Tk→Rs β)(g:β→List Tk→Rs γ):bnd (bnd r k) g=bnd r fun a i=>bnd (k a i) g:=by
 obtain⟨o,i⟩:=r
 cases o<;>rfl
theorem Box{α:Type}(r:Rs α):bnd r (fun a i=>(some a,i))=r:=by
 obtain⟨o,i⟩:=r
 cases o<;>rfl
def Ad2(n:Nat):Nat→List Nd→List Tk→Rs (List Nd)
 |_,out,[]=>(some out,[])
 |0,out,t::r=>(some out,t::r)
 |f+1,out,t::r=>if (Br t).2=n then bnd (CL r (n+1)) fun b j=>if n=4 then(some (⟨(Br t).1,[]⟩::(out++b)),j) else Ad2 n f (⟨(Br t).1,[]⟩::(out++b)) j else(some out,t::r)
theorem Aqm(n:Nat){a b:Nat}(out:List Nd)(own:Nat){ts:List Tk}(ha:ts.length≤a)(hb:ts.length≤b):Cc CL n a out own ts=Cc CL n b out own ts:=
 Aae Gb n a b out own ts (fun i k hi=>rfl) ha hb
theorem Ew{n f:Nat}{out:List Nd}{own:Nat}{t:Tk}{r:List Tk}(h:(Br t).2=0∨(Br t).2<n∨own<Km (Br t).2):Cc CL n f out own (t::r)=(some (out,own),t::r):=by
 cases f with
 |zero=>rfl
 |succ f=>unfold Cc;rw[if_pos h]
theorem Ju{n f:Nat}{out:List Nd}{own:Nat}{t:Tk}{r:List Tk}(h: ¬((Br t).2=0∨(Br t).2<n∨own<Km (Br t).2)):Cc CL n (f+1) out own (t::r)=bnd (CL r ((Br t).2+1)) fun b j=>Cc CL n f (⟨(Br t).1,[]⟩::(out++b)) (Br t).2 j:=by
 rw[Cc,if_neg h]
def Bqm(n own:Nat)(ts:List Tk):Prop:=match ts with
 |[]=>True
 |t::_=>(Br t).2=0∨(Br t).2<n∨own<Km (Br t).2
theorem Avh(n:Nat): ∀(f:Nat) (out:List Nd) (own:Nat) (ts:List Tk),ts.length≤f→ ∀x j,Cc CL n f out own ts=(some x,j)→Bqm n x.2 j∧(n≤own→n≤x.2)
 |f,out,own,[],_,x,j,h=>by
  have:Cc CL n f out own []=(some (out,own),[]):=by cases f<;>rfl
  rw[this] at h
  cases h
  exact⟨trivial,id⟩
 |0,out,own,t::r,hf,x,j,h=>absurd hf (by simp)
 |f+1,out,own,t::r,hf,x,j,h=>by
  simp only[List.length_cons] at hf
  by_cases hs:(Br t).2=0∨(Br t).2<n∨own<Km (Br t).2
  ·rw[Ew hs] at h
   cases h
   exact⟨hs,id⟩
  ·rw[Ju hs] at h
   have hl:=(Gb r ((Br t).2+1)).length_le
   cases hc:CL r ((Br t).2+1) with
   |mk o i=>
    rw[hc] at h hl
    cases o with
    |none=>cases h
    |some b=>
     obtain⟨h1,h2⟩:=Avh n f _ _ i (by simp at hl;omega) x j h
     exact⟨h1,fun _=>h2 (by omega)⟩
theorem Avg{n m:Nat}(hnm:n≤m): ∀(k f:Nat) (out:List Nd) (own:Nat) (ts:List Tk),ts.length≤f→ts.length≤k→Cc CL n f out own ts=bnd (Cc CL m f out own ts) fun x j=>Cc CL n k x.1 x.2 j
 |k,f,out,own,[],_,_=>by cases f<;>cases k<;>rfl
 |k,0,out,own,t::r,hf,_=>absurd hf (by simp)
 |0,f,out,own,t::r,_,hk=>absurd hk (by simp)
 |k+1,f+1,out,own,t::r,hf,hk=>by
  by_cases hs:(Br t).2=0∨(Br t).2<m∨own<Km (Br t).2
  ·rw[Ew hs (n:=m)]
   exact Aqm n out own hf hk
  ·rw[Ju hs,Ju (by omega),Hp]
   simp only[List.length_cons] at hf hk
   refine Bh rfl fun b hb=>?_
   have hl:=(Gb r ((Br t).2+1)).length_le
   rw[Avg hnm (k+1) f _ _ _ (by omega) (by omega)]
theorem A9t{n:Nat}(hn:n=1∨n=2∨n=5∨n=6): ∀(f:Nat) (out:List Nd) (ts:List Tk),ts.length≤f→(bnd (Cc CL n f out n ts) fun y j=>(some y.1,j))=Ad2 n f out ts
 |f,out,[],_=>by cases f<;>rfl
 |0,out,t::r,hf=>absurd hf (by simp)
 |f+1,out,t::r,hf=>by
  simp only[List.length_cons] at hf
  have hd:=Mo t
  by_cases hs:(Br t).2=n
  ·rw[Ju (by unfold Km;rw[hs,if_neg (by omega)];omega),Hp,Ad2,if_pos hs,hs]
   refine Bh rfl fun b hb=>?_
   have hl:=(Gb r (n+1)).length_le
   rw[A9t hn f _ _ (by omega),if_neg (by omega)]
  ·rw[Ew (by unfold Km;split<;>omega),Ad2,if_neg hs]
   rfl
theorem Bi5{f:Nat}{out:List Nd}{ts:List Tk}:Cc CL 4 f out 4 ts=(some (out,4),ts):=by
 cases ts with
 |nil=>cases f<;>rfl
 |cons t r=>
  have hd:=Mo t
  exact Ew (by unfold Km;split<;>omega)
theorem Bi6{n:Nat}(hn:n=1∨n=2∨n=4∨n=5∨n=6){f:Nat}{out:List Nd}{own:Nat}{ts:List Tk}(hf:ts.length≤f)(hs:Bqm (n+1) own ts)(ho:n+1≤own):(bnd (Cc CL n f out own ts) fun y j=>(some y.1,j))=Ad2 n f out ts:=by
 cases ts with
 |nil=>cases f<;>rfl
 |cons t r=>
  cases f with
  |zero=>exact absurd hf (by simp)
  |succ f=>
   simp only[List.length_cons] at hf
   have hd:=Mo t
   have hs:(Br t).2=0∨(Br t).2<n+1∨own<Km (Br t).2:=hs
   by_cases he:(Br t).2=n
   ·rw[Ju (by rw[he];unfold Km;split<;>omega),Hp,Ad2,if_pos he,he]
    refine Bh rfl fun b hb=>?_
    have hl:=(Gb r (n+1)).length_le
    by_cases h4:n=4
    ·subst h4
     rw[Bi5,if_pos rfl]
     rfl
    ·rw[A9t (by omega) f _ _ (by omega),if_neg h4]
   ·rw[Ew (by omega),Ad2,if_neg he]
    rfl
theorem I0{n:Nat}(hn:n≠0)(ts:List Tk):Cb CL ts n=if n≤3∧isT Ob ts=true then bnd (CL ts.tail 3) fun a i=>(some (⟨14,[]⟩::a,3),i)
 else if isT [45] ts=true then bnd (CL ts.tail 7) fun a i=>(some (⟨2,[]⟩::a,7),i)
 else bnd (Db CL ts) fun a i=>(some (a,8),i):=by
 unfold Cb
 rw[if_neg (fun c=>hn c.1)]
theorem Bdr{n:Nat}(hn:n=1∨n=2∨n=4∨n=5∨n=6)(ts:List Tk):Cb CL ts n=Cb CL ts (n+1):=by
 rw[I0 (by omega),I0 (by omega)]
 by_cases h:isT Ob ts=true
 ·have hd:(n≤3∧isT Ob ts=true)↔(n+1≤3∧isT Ob ts=true):=⟨fun c=>⟨by have:=c.1;omega,h⟩,fun c=>⟨by have:=c.1;omega,h⟩⟩
  simp only[hd]
 ·simp only[h,and_false,if_false,Bool.false_eq_true]
theorem Biy{n:Nat}(hn:1≤n)(h7:n≤7)(ts:List Tk): ∀x j,Cb CL ts n=(some x,j)→n≤x.2:=by
 intro x j h
 rw[I0 (by omega)] at h
 split at h
 ·rename_i h3
  cases hc:CL ts.tail 3 with
  |mk o i=>cases o with
   |none=>rw[hc] at h;cases h
   |some a=>rw[hc] at h;cases h;exact h3.1
 ·split at h
  ·cases hc:CL ts.tail 7 with
   |mk o i=>cases o with
    |none=>rw[hc] at h;cases h
    |some a=>rw[hc] at h;cases h;exact h7
  ·cases hc:Db CL ts with
   |mk o i=>cases o with
    |none=>rw[hc] at h;cases h
    |some a=>rw[hc] at h;cases h;show n≤8;omega
theorem Bq9{n:Nat}(hn:n=1∨n=2∨n=4∨n=5∨n=6)(ts:List Tk):CL ts n=bnd (CL ts (n+1)) fun out i=>Ad2 n i.length out i:=by
 rw[Q1 ts n,Q1 ts (n+1),Bdr hn,Hp]
 refine Bh rfl fun x hx=>?_
 generalize hi:(Cb CL ts (n+1)).2=i
 have hown:=Biy (n:=n+1) (by omega) (by omega) ts x i (by rw[←hi,←hx])
 rw[Avg (Nat.le_succ n) i.length i.length x.1 x.2 i (Nat.le_refl _) (Nat.le_refl _),Hp,Hp]
 refine Bh rfl fun y hy=>?_
 generalize hj:(Cc CL (n+1) i.length x.1 x.2 i).2=j
 obtain⟨h1,h2⟩:=Avh (n+1) i.length x.1 x.2 i (Nat.le_refl _) y j (by rw[←hj,←hy])
 have hl:=(Avf Gb (n+1) i.length x.1 x.2 i).length_le
 rw[hj] at hl
 show _=Ad2 n j.length y.1 j
 rw[Aqm n y.1 y.2 hl (Nat.le_refl j.length)]
 exact Bi6 hn (Nat.le_refl _) h1 (h2 hown)
theorem Ajp{n f:Nat}{out:List Nd}{own:Nat}{ts:List Tk}(h: ∀t r,ts=t::r→(Br t).2=0∨(Br t).2<n∨own<Km (Br t).2):Cc CL n f out own ts=(some (out,own),ts):=by
 cases ts with
 |nil=>cases f<;>rfl
 |cons t r=>exact Ew (h t r rfl)
theorem Bgo(ts:List Tk):CL ts 0=if isT sIf ts=true then
   bnd (CL ts.tail 0) fun a i=>H4 Sh i fun i2=>bnd (CL i2 0) fun b j=>H4 Nz j fun j2=>bnd (CL j2 0) fun c k=>(some (⟨15,[]⟩::(a++b++c)),k)
  else CL ts 1:=by
 rw[Q1 ts 0]
 by_cases h:isT sIf ts=true
 ·rw[if_pos h]
  unfold Cb
  rw[if_pos ⟨rfl,h⟩,Hp]
  refine Bh rfl fun a ha=>?_
  unfold H4
  split
  ·rw[Hp]
   refine Bh rfl fun b hb=>?_
   split
   ·rw[Hp]
    refine Bh rfl fun c hc=>?_
    show bnd (Cc CL 0 _ _ 0 _) _=_
    rw[Ajp (fun t r he=>by have:=Mo t;unfold Km;split<;>omega)]
    rfl
   ·rfl
  ·rfl
 ·rw[if_neg h,Q1 ts 1]
  have hf:Cb CL ts 0=Cb CL ts 1:=by
   rw[I0 (n:=1) (by omega)]
   unfold Cb
   rw[if_neg (fun c=>h c.2)]
   simp
  rw[hf]
  refine Bh rfl fun x hx=>?_
  generalize (Cb CL ts 1).2=i
  have key: ∀(f:Nat) (out:List Nd) (own:Nat) (ts:List Tk),Cc CL 0 f out own ts=Cc CL 1 f out own ts:=by
   intro f
   induction f with
   |zero=>intro out own ts;cases ts<;>rfl
   |succ f ih=>
    intro out own ts
    cases ts with
    |nil=>rfl
    |cons t r=>
     by_cases hs:(Br t).2=0∨(Br t).2<0∨own<Km (Br t).2
     ·rw[Ew hs,Ew (by omega)]
     ·rw[Ju hs,Ju (by omega)]
      exact Bh rfl fun b hb=>ih _ _ _
  rw[key]
theorem Bkk(ts:List Tk):CL ts 3=if isT Ob ts=true then bnd (CL ts.tail 3) fun a i=>(some (⟨14,[]⟩::a),i) else CL ts 4:=by
 rw[Q1 ts 3]
 by_cases h:isT Ob ts=true
 ·rw[if_pos h]
  rw[I0 (by omega),if_pos ⟨by omega,h⟩,Hp]
  refine Bh rfl fun a ha=>?_
  show bnd (Cc CL 3 _ _ 3 _) _=_
  rw[Ajp (fun t r he=>by have:=Mo t;unfold Km;split<;>omega)]
  rfl
 ·rw[if_neg h,Q1 ts 4]
  have hf:Cb CL ts 3=Cb CL ts 4:=by
   rw[I0 (by omega),I0 (by omega)]
   simp only[h,and_false,if_false,Bool.false_eq_true]
  rw[hf]
  refine Bh rfl fun x hx=>?_
  generalize (Cb CL ts 4).2=i
  have key: ∀(f:Nat) (out:List Nd) (own:Nat) (ts:List Tk),Cc CL 3 f out own ts=Cc CL 4 f out own ts:=by
   intro f
   induction f with
   |zero=>intro out own ts;cases ts<;>rfl
   |succ f ih=>
    intro out own ts
    cases ts with
    |nil=>rfl
    |cons t r=>
     have hd:=Mo t
     by_cases hs:(Br t).2=0∨(Br t).2<3∨own<Km (Br t).2
     ·rw[Ew hs,Ew (by omega)]
     ·rw[Ju hs,Ju (by omega)]
      exact Bh rfl fun b hb=>ih _ _ _
  rw[key]
theorem Bkj(ts:List Tk):CL ts 7=if isT [45] ts=true then bnd (CL ts.tail 7) fun a i=>(some (⟨2,[]⟩::a),i) else Db CL ts:=by
 rw[Q1 ts 7]
 rw[I0 (by omega),if_neg (fun c=>absurd c.1 (by omega))]
 by_cases h:isT [45] ts=true
 ·rw[if_pos h,if_pos h,Hp]
  refine Bh rfl fun a ha=>?_
  show bnd (Cc CL 7 _ _ 7 _) _=_
  rw[Ajp (fun t r he=>by have:=Mo t;omega)]
  rfl
 ·rw[if_neg h,if_neg h,Hp]
  conv=>rhs;rw[←Box (Db CL ts)]
  refine Bh rfl fun a ha=>?_
  show bnd (Cc CL 7 _ _ 8 _) _=_
  rw[Ajp (fun t r he=>by have:=Mo t;omega)]
  rfl
end Go.Av.G
end
