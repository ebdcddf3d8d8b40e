import Derived.Test.YtgmiodjnojkdkaaGreatDoorC14
set_option linter.all false
section
set_option maxHeartbeats 8000000
set_option maxRecDepth 100000
namespace Go.Av.G
open Go Go.Av Go.Proofs
def Aem:List TOp:=[oo 0 (.mov (.cst (.bool false)))]
def Aen:List TOp:=[oo 29 (.call 0 0 (.cst (.fn 9)) [(.cst (.str [97,45,98,32,45,32,99,42,45,50,37]))] [] []),oo 28 (.mov (.tmp 29)),oo 30 (.ext 0 (.tmp 28)),oo 31 (.ext 1 (.tmp 28)),oo 32 (.ext 2 (.tmp 28)),oo 33 (.ext 3 (.tmp 28)),oo 1 (.mov (.tmp 30)),oo 2 (.mov (.tmp 31)),oo 3 (.mov (.tmp 32)),oo 4 (.mov (.tmp 33))]
def Aeo:List TOp:=[oo 35 (.mov (.tmp 1)),oo 36 (.call 0 0 (.cst (.fn 17)) [(.tmp 35)] [] []),oo 34 (.mov (.tmp 36)),oo 37 (.ext 0 (.tmp 34)),oo 38 (.ext 1 (.tmp 34)),oo 5 (.mov (.tmp 37)),oo 6 (.mov (.tmp 38))]
def Aep:List TOp:=[oo 40 (.call 0 0 (.cst (.fn 9)) [(.cst (.str [40,97,32,60,32,49,41,32,61,32,40,110,111,116,32,98,41]))] [] []),oo 39 (.mov (.tmp 40)),oo 41 (.ext 0 (.tmp 39)),oo 42 (.ext 1 (.tmp 39)),oo 43 (.ext 2 (.tmp 39)),oo 44 (.ext 3 (.tmp 39)),oo 7 (.mov (.tmp 41)),oo 8 (.mov (.tmp 42)),oo 9 (.mov (.tmp 43)),oo 10 (.mov (.tmp 44))]
def Aeq:List TOp:=[oo 46 (.mov (.tmp 7)),oo 47 (.call 0 0 (.cst (.fn 17)) [(.tmp 46)] [] []),oo 45 (.mov (.tmp 47)),oo 48 (.ext 0 (.tmp 45)),oo 49 (.ext 1 (.tmp 45)),oo 11 (.mov (.tmp 48)),oo 12 (.mov (.tmp 49))]
def Aer:List TOp:=[oo 51 (.call 0 0 (.cst (.fn 9)) [(.cst (.str [97,10,32,60,32,98,32,60,32,99]))] [] []),oo 50 (.mov (.tmp 51)),oo 52 (.ext 0 (.tmp 50)),oo 53 (.ext 1 (.tmp 50)),oo 54 (.ext 2 (.tmp 50)),oo 55 (.ext 3 (.tmp 50)),oo 13 (.mov (.tmp 52)),oo 14 (.mov (.tmp 53)),oo 15 (.mov (.tmp 54)),oo 16 (.mov (.tmp 55))]
def Aes:List TOp:=[oo 57 (.call 0 0 (.cst (.fn 9)) [(.cst (.str [40,97]))] [] []),oo 56 (.mov (.tmp 57)),oo 58 (.ext 0 (.tmp 56)),oo 59 (.ext 1 (.tmp 56)),oo 60 (.ext 2 (.tmp 56)),oo 61 (.ext 3 (.tmp 56)),oo 17 (.mov (.tmp 58)),oo 18 (.mov (.tmp 59)),oo 19 (.mov (.tmp 60)),oo 20 (.mov (.tmp 61))]
def Aet:List TOp:=[oo 63 (.call 0 0 (.cst (.fn 12)) [(.cst (.str [112,114,111,100,117,99,116,32,115,97,118,101,32,101,117,114,32,123,32,98,97,115,105,115,32,97,99,116,51,54,53,32,59,32,112,101,114,105,111,100,32,51,32,59,32,116,105,101,114,115,32,123,32,48,32,58,32,49,46,50,53,32,37,32,59,32,53,48,48,32,58,32,50,32,37,32,59,32,125,32,102,101,101,32,105,102,32,98,97,108,97,110,99,101,32,60,32,49,48,32,116,104,101,110,32,49,32,101,108,115,101,32,48,32,59,32,109,105,110,105,109,117,109,32,53,32,59,32,111,118,101,114,100,114,97,102,116,32,48,32,59,32,110,111,116,105,99,101,32,51,48,32,59,32,125]))] [] []),oo 62 (.mov (.tmp 63)),oo 64 (.ext 0 (.tmp 62)),oo 65 (.ext 1 (.tmp 62)),oo 66 (.ext 2 (.tmp 62)),oo 67 (.ext 3 (.tmp 62)),oo 21 (.mov (.tmp 64)),oo 22 (.mov (.tmp 65)),oo 23 (.mov (.tmp 66)),oo 24 (.mov (.tmp 67))]
def Aeu:List TOp:=[oo 69 (.mov (.tmp 21)),oo 70 (.call 0 0 (.cst (.fn 19)) [(.tmp 69)] [] []),oo 68 (.mov (.tmp 70)),oo 71 (.ext 0 (.tmp 68)),oo 72 (.ext 1 (.tmp 68)),oo 25 (.mov (.tmp 71)),oo 26 (.mov (.tmp 72))]
def Aev:List TOp:=[oo 73 (.mov (.tmp 1)),ot 74 (.st 4) (.build [.pv (.int .i64 0),.pv (.str [])] [(0,1,(.cst (.int .i64 4)))]),ot 75 (.st 4) (.build [.pv (.int .i64 0),.pv (.str [])] [(0,1,(.cst (.int .i64 4)))]),ot 76 (.st 4) (.build [.pv (.int .i64 0),.pv (.str [])] [(0,1,(.cst (.int .i64 1))),(1,1,(.cst (.str [97])))]),ot 77 (.st 4) (.build [.pv (.int .i64 0),.pv (.str [])] [(0,1,(.cst (.int .i64 1))),(1,1,(.cst (.str [98])))]),ot 78 (.st 4) (.build [.pv (.int .i64 0),.pv (.str [])] [(0,1,(.cst (.int .i64 5)))]),ot 79 (.st 4) (.build [.pv (.int .i64 0),.pv (.str [])] [(0,1,(.cst (.int .i64 1))),(1,1,(.cst (.str [99])))]),ot 80 (.st 4) (.build [.pv (.int .i64 0),.pv (.str [])] [(0,1,(.cst (.int .i64 2)))]),ot 81 (.st 4) (.build [.pv (.int .i64 0),.pv (.str [])] [(1,1,(.cst (.str [50,37])))]),ot 82 (.st 4) (.lit false 2 [(.tmp 74),(.tmp 75),(.tmp 76),(.tmp 77),(.tmp 78),(.tmp 79),(.tmp 80),(.tmp 81)]),oo 83 (.call 0 0 (.cst (.fn 11)) [(.tmp 73),(.tmp 82)] [] []),oo 27 (.mov (.tmp 83))]
def Zk:List TOp:=[oo 84 (.mov (.tmp 21)),oo 85 (.len false (.tmp 84)),oo 86 (.bin false .neq (.tmp 85) (.cst (.int .i64 1)))]
def Zl:List TOp:=[oo 0 (.mov (.cst (.bool false)))]
def Jm:Kp:=⟨[],[(0,false)],[],[],[]⟩
def Zm:List TOp:=[oo 87 (.mov (.tmp 4)),oo 88 (.bin false .eql (.tmp 87) (.cst (.int .i64 0))),oo 89 (.mov (.tmp 88)),og 90 89 true .bool (.mov (.tmp 27)),oo 91 (.pick (.tmp 89) (.tmp 90) (.cst (.bool false))),oo 92 (.mov (.tmp 91)),og 93 92 true .bool (.mov (.tmp 6)),og 94 92 true .bool (.bin false .eql (.tmp 93) (.cst (.int .i64 0))),oo 95 (.pick (.tmp 92) (.tmp 94) (.cst (.bool false))),oo 96 (.mov (.tmp 95)),og 97 96 true .bool (.mov (.tmp 5)),og 98 96 true .bool (.bin false .eql (.tmp 97) (.cst (.str [97,32,45,32,98,32,45,32,99,32,42,32,45,32,50,32,37]))),oo 99 (.pick (.tmp 96) (.tmp 98) (.cst (.bool false))),oo 100 (.mov (.tmp 99)),og 101 100 true .bool (.mov (.tmp 1)),og 102 100 true .bool (.call 0 0 (.cst (.fn 21)) [(.tmp 101)] [] []),og 103 100 true .bool (.bin false .eql (.tmp 102) (.cst (.int .i64 4))),oo 104 (.pick (.tmp 100) (.tmp 103) (.cst (.bool false))),oo 105 (.mov (.tmp 104)),og 106 105 true .bool (.mov (.tmp 10)),og 107 105 true .bool (.bin false .eql (.tmp 106) (.cst (.int .i64 0))),oo 108 (.pick (.tmp 105) (.tmp 107) (.cst (.bool false))),oo 109 (.mov (.tmp 108)),og 110 109 true .bool (.mov (.tmp 12)),og 111 109 true .bool (.bin false .eql (.tmp 110) (.cst (.int .i64 0))),oo 112 (.pick (.tmp 109) (.tmp 111) (.cst (.bool false))),oo 113 (.mov (.tmp 112)),og 114 113 true .bool (.mov (.tmp 11)),og 115 113 true .bool (.bin false .eql (.tmp 114) (.cst (.str [40,32,97,32,60,32,49,32,41,32,61,32,40,32,110,111,116,32,98,32,41]))),oo 116 (.pick (.tmp 113) (.tmp 115) (.cst (.bool false))),oo 117 (.mov (.tmp 116)),og 118 117 true .bool (.mov (.tmp 16)),og 119 117 true .bool (.bin false .eql (.tmp 118) (.cst (.int .i64 14))),oo 120 (.pick (.tmp 117) (.tmp 119) (.cst (.bool false))),oo 121 (.mov (.tmp 120)),og 122 121 true .bool (.mov (.tmp 14)),og 123 121 true .bool (.bin false .eql (.tmp 122) (.cst (.int .i64 2))),oo 124 (.pick (.tmp 121) (.tmp 123) (.cst (.bool false))),oo 125 (.mov (.tmp 124)),og 126 125 true .bool (.mov (.tmp 15)),og 127 125 true .bool (.bin false .eql (.tmp 126) (.cst (.int .i64 6))),oo 128 (.pick (.tmp 125) (.tmp 127) (.cst (.bool false))),oo 129 (.mov (.tmp 128)),og 130 129 true .bool (.mov (.tmp 20)),og 131 129 true .bool (.bin false .eql (.tmp 130) (.cst (.int .i64 14))),oo 132 (.pick (.tmp 129) (.tmp 131) (.cst (.bool false))),oo 133 (.mov (.tmp 132)),og 134 133 true .bool (.mov (.tmp 18)),og 135 133 true .bool (.bin false .eql (.tmp 134) (.cst (.int .i64 1))),oo 136 (.pick (.tmp 133) (.tmp 135) (.cst (.bool false))),oo 137 (.mov (.tmp 136)),og 138 137 true .bool (.mov (.tmp 19)),og 139 137 true .bool (.bin false .eql (.tmp 138) (.cst (.int .i64 3))),oo 140 (.pick (.tmp 137) (.tmp 139) (.cst (.bool false))),oo 141 (.mov (.tmp 140)),og 142 141 true .bool (.mov (.tmp 24)),og 143 141 true .bool (.bin false .eql (.tmp 142) (.cst (.int .i64 0))),oo 144 (.pick (.tmp 141) (.tmp 143) (.cst (.bool false))),oo 145 (.mov (.tmp 144)),og 146 145 true .bool (.mov (.tmp 26)),og 147 145 true .bool (.bin false .eql (.tmp 146) (.cst (.int .i64 0))),oo 148 (.pick (.tmp 145) (.tmp 147) (.cst (.bool false))),oo 149 (.mov (.tmp 148)),og 150 149 true .bool (.mov (.tmp 25)),og 151 149 true .bool (.bin false .eql (.tmp 150) (.cst (.str [112,114,111,100,117,99,116,32,115,97,118,101,32,101,117,114,32,123,32,98,97,115,105,115,32,97,99,116,51,54,53,32,59,32,112,101,114,105,111,100,32,51,32,59,32,116,105,101,114,115,32,123,32,48,32,58,32,49,46,50,53,32,37,32,59,32,53,48,48,32,58,32,50,32,37,32,59,32,125,32,102,101,101,32,105,102,32,98,97,108,97,110,99,101,32,60,32,49,48,32,116,104,101,110,32,49,32,101,108,115,101,32,48,32,59,32,109,105,110,105,109,117,109,32,53,32,59,32,111,118,101,114,100,114,97,102,116,32,48,32,59,32,110,111,116,105,99,101,32,51,48,32,59,32,125]))),oo 152 (.pick (.tmp 149) (.tmp 151) (.cst (.bool false))),oo 153 (.mov (.tmp 152)),og 154 153 true .bool (.mov (.tmp 21)),og 155 153 true .bool (.idx 9 (.tmp 154) (.cst (.int .i64 0))),og 156 153 true .bool (.fld 4 (.tmp 155)),og 157 153 true .bool (.load false 1 (.tmp 156)),og 158 153 true .bool (.len false (.tmp 157)),og 159 153 true .bool (.bin false .eql (.tmp 158) (.cst (.int .i64 2))),oo 160 (.pick (.tmp 153) (.tmp 159) (.cst (.bool false))),oo 161 (.mov (.tmp 160)),og 162 161 true .bool (.mov (.tmp 21)),og 163 161 true .bool (.idx 9 (.tmp 162) (.cst (.int .i64 0))),og 164 161 true .bool (.fld 4 (.tmp 163)),og 165 161 true .bool (.load false 1 (.tmp 164)),og 166 161 true .bool (.idx 2 (.tmp 165) (.cst (.int .i64 1))),og 167 161 true .bool (.fld 1 (.tmp 166)),og 168 161 true .bool (.load false 1 (.tmp 167)),og 169 161 true .bool (.bin false .eql (.tmp 168) (.cst (.str [50]))),oo 170 (.pick (.tmp 161) (.tmp 169) (.cst (.bool false))),oo 171 (.mov (.tmp 170)),og 172 171 true .bool (.mov (.tmp 21)),og 173 171 true .bool (.idx 9 (.tmp 172) (.cst (.int .i64 0))),og 174 171 true .bool (.fld 8 (.tmp 173)),og 175 171 true .bool (.load false 1 (.tmp 174)),og 176 171 true .bool (.bin false .eql (.tmp 175) (.cst (.str [51,48]))),oo 177 (.pick (.tmp 171) (.tmp 176) (.cst (.bool false))),oo 178 (.mov (.tmp 177)),og 179 178 true .bool (.mov (.tmp 21)),og 180 178 true .bool (.idx 9 (.tmp 179) (.cst (.int .i64 0))),og 181 178 true (.st 7) (.load true 9 (.tmp 180)),og 182 178 true .bool (.mov (.tmp 21)),og 183 178 true .bool (.idx 9 (.tmp 182) (.cst (.int .i64 0))),og 184 178 true (.st 7) (.load true 9 (.tmp 183)),og 185 178 true .bool (.call 0 0 (.cst (.fn 24)) [(.tmp 181),(.tmp 184)] [] []),oo 186 (.pick (.tmp 178) (.tmp 185) (.cst (.bool false))),oo 187 (.mov (.tmp 186)),og 188 187 true (.st 4) (.build [.pv (.int .i64 0),.pv (.str [])] [(0,1,(.cst (.int .i64 2)))]),og 189 187 true (.st 4) (.lit false 2 [(.tmp 188)]),og 190 187 true .bool (.call 0 0 (.cst (.fn 23)) [(.tmp 189)] [] []),og 191 187 true .bool (.un .not (.tmp 190)),oo 192 (.pick (.tmp 187) (.tmp 191) (.cst (.bool false))),oo 193 (.mov (.tmp 192)),og 194 193 true .bool (.mov (.tmp 1)),og 195 193 true .bool (.call 0 0 (.cst (.fn 23)) [(.tmp 194)] [] []),oo 196 (.pick (.tmp 193) (.tmp 195) (.cst (.bool false))),oo 0 (.mov (.tmp 196))]
def Anu:TFd:=⟨0,[(.tmp 0,.bool)],[],(.seq (.ops Aem) (.seq (.ops Aen) (.seq (.ops Aeo) (.seq (.ops Aep) (.seq (.ops Aeq) (.seq (.ops Aer) (.seq (.ops Aes) (.seq (.ops Aet) (.seq (.ops Aeu) (.seq (.ops Aev) (.seq (.seq (.ops Zk) (.cond (.tmp 86) (.free (.seq (.ops Zl) (.keep Jm .ret))) .skip)) (.seq (.draw [] Zm) (.keep Jm .ret)))))))))))))⟩
noncomputable def Ls:Ent:=⟨[],[],[],⟨(.ty .bool),[],[],[.bool],[],[]⟩,none,fun p=>C5⟩
theorem Ady:Ls.ok Tryz.prog 8:=Au hm Tryz.func8 (fd:=Anu) (by kernel_rfl) (Ak (l:=[(9,Av6),(17,Ast),(12,Anm),(19,Zg),(11,Hb),(21,Wn),(24,Av5),(23,G9)]) (y:=[]) ⟨A6o,A20,Av3,Av4,J2,Ann,A6n,Hz,trivial⟩ trivial) (by kernel_rfl) (fun p=>by kernel_rfl)
def Afb:List TOp:=[oo 2 (.mov (.cst (.int .i64 0)))]
def Afc:List TOp:=[oo 3 (.mov (.cst (.int .i64 0)))]
def Afd:List TOp:=[oo 4 (.mov (.tmp 3)),oo 5 (.mov (.tmp 0)),oo 6 (.len true (.tmp 5)),oo 7 (.bin false .lss (.tmp 4) (.tmp 6))]
def Afe:List TOp:=[oo 8 (.mov (.tmp 0)),oo 9 (.mov (.tmp 3)),oo 10 (.sidx (.tmp 8) (.tmp 9)),oo 11 (.bin false .eql (.tmp 10) (.cst (.int .u8 35)))]
def Aff:List TOp:=[oo 12 (.mov (.tmp 3)),oo 13 (.mov (.tmp 0)),oo 14 (.len true (.tmp 13)),oo 15 (.bin false .lss (.tmp 12) (.tmp 14)),oo 16 (.mov (.tmp 15)),og 17 16 true .bool (.mov (.tmp 0)),og 18 16 true .bool (.mov (.tmp 3)),og 19 16 true .bool (.sidx (.tmp 17) (.tmp 18)),og 20 16 true .bool (.bin false .neq (.tmp 19) (.cst (.int .u8 10))),oo 21 (.pick (.tmp 16) (.tmp 20) (.cst (.bool false)))]
def Afg:List TOp:=[oo 22 (.mov (.tmp 3)),oo 23 (.bin false .add (.tmp 22) (.cst (.int .i64 1))),oo 3 (.mov (.tmp 23))]
def Afa:DC:=(.seq (.seq (.ops Aff) (.cond (.tmp 21) .skip (.exit 2))) (.pass 3 (.ops Afg)))
def Km:Kp:=⟨[],[(0,false),(3,false)],[],[],[]⟩
def Kn:Sig:=⟨[(0,none),(3,some (.ty (.int .i64)))],[],[(.int .i64)],[],[]⟩
def Afh:List TOp:=[oo 24 (.mov (.tmp 0)),oo 25 (.mov (.tmp 3)),oo 26 (.sidx (.tmp 24) (.tmp 25)),oo 27 (.bin false .eql (.tmp 26) (.cst (.int .u8 32))),oo 28 (.mov (.tmp 27)),og 29 28 false .bool (.mov (.tmp 0)),og 30 28 false .bool (.mov (.tmp 3)),og 31 28 false .bool (.sidx (.tmp 29) (.tmp 30)),og 32 28 false .bool (.bin false .eql (.tmp 31) (.cst (.int .u8 9))),oo 33 (.pick (.tmp 28) (.cst (.bool true)) (.tmp 32)),oo 34 (.mov (.tmp 33)),og 35 34 false .bool (.mov (.tmp 0)),og 36 34 false .bool (.mov (.tmp 3)),og 37 34 false .bool (.sidx (.tmp 35) (.tmp 36)),og 38 34 false .bool (.bin false .eql (.tmp 37) (.cst (.int .u8 10))),oo 39 (.pick (.tmp 34) (.cst (.bool true)) (.tmp 38))]
def Zx:List TOp:=[oo 40 (.mov (.tmp 3)),oo 41 (.bin false .add (.tmp 40) (.cst (.int .i64 1))),oo 3 (.mov (.tmp 41))]
def Zy:List TOp:=[oo 42 (.mov (.tmp 3)),oo 2 (.mov (.tmp 42))]
def Jn:Kp:=⟨[],[(2,false)],[],[],[]⟩
def Zw:DC:=(.seq (.seq (.ops Afd) (.cond (.tmp 7) .skip (.exit 0))) (.pass 1 (.seq (.ops Afe) (.cond (.tmp 11) (.block 2 (.loop [0,3] [] Km Kn Afa)) (.seq (.ops Afh) (.cond (.tmp 39) (.ops Zx) (.free (.seq (.ops Zy) (.keep Jn .ret)))))))))
def Zv:Kp:=⟨[],[(3,false)],[],[],[]⟩
def Z0:Sig:=⟨[(3,some (.ty (.int .i64)))],[],[(.int .i64)],[],[]⟩
def Zz:List TOp:=[oo 43 (.mov (.tmp 3)),oo 2 (.mov (.tmp 43))]
def An8:TFd:=⟨1,[(.tmp 2,.bool)],[],(.seq (.ops Afb) (.seq (.ops Afc) (.seq (.joinO Zv Z0 (.block 0 (.loop [0,3] [] Km Kn Zw))) (.seq (.ops Zz) (.keep Jn .ret)))))⟩
noncomputable def Lu:Ent:=⟨[.ty .str],[],[.str],⟨(.ty (.int .i64)),[],[],[(.int .i64)],[],[]⟩,none,fun p=>C6 p⟩
theorem Adz:Lu.ok Tryz.prog 50:=Au hm Tryz.func50 (fd:=An8) (by kernel_rfl) (Ak (l:=[]) (y:=[]) trivial trivial) (by kernel_rfl) (fun p=>by kernel_rfl)
def Aac:List TOp:=[oo 2 (.mov (.cst (.bool false)))]
def Aad:List TOp:=[oo 3 (.mov (.tmp 0)),oo 4 (.bin false .geq (.tmp 3) (.cst (.int .u8 97))),oo 5 (.mov (.tmp 4)),og 6 5 true .bool (.mov (.tmp 0)),og 7 5 true .bool (.bin false .leq (.tmp 6) (.cst (.int .u8 122))),oo 8 (.pick (.tmp 5) (.tmp 7) (.cst (.bool false))),oo 2 (.mov (.tmp 8))]
def Aab:Kp:=⟨[],[(2,false)],[],[],[]⟩
def Ajo:TFd:=⟨1,[(.tmp 2,.bool)],[],(.seq (.ops Aac) (.seq (.ops Aad) (.keep Aab .ret)))⟩
def Gs:Ent:=⟨[.ty (.int .u8)],[],[(.int .u8)],⟨(.ty .bool),[],[],[.bool],[],[]⟩,none,fun p=>Dl p⟩
theorem Jd:Gs.ok Tryz.prog 82:=Au hm Tryz.func82 (fd:=Ajo) (by kernel_rfl) (Ak (l:=[]) (y:=[]) trivial trivial) (by kernel_rfl) (fun p=>by kernel_rfl)
def Afj:List TOp:=[oo 2 (.mov (.cst (.bool false)))]
def Afk:List TOp:=[oo 3 (.mov (.tmp 0)),oo 4 (.bin false .geq (.tmp 3) (.cst (.int .u8 48))),oo 5 (.mov (.tmp 4)),og 6 5 true .bool (.mov (.tmp 0)),og 7 5 true .bool (.bin false .leq (.tmp 6) (.cst (.int .u8 57))),oo 8 (.pick (.tmp 5) (.tmp 7) (.cst (.bool false))),oo 2 (.mov (.tmp 8))]
def Afi:Kp:=⟨[],[(2,false)],[],[],[]⟩
def An9:TFd:=⟨1,[(.tmp 2,.bool)],[],(.seq (.ops Afj) (.seq (.ops Afk) (.keep Afi .ret)))⟩
def Db:Ent:=⟨[.ty (.int .u8)],[],[(.int .u8)],⟨(.ty .bool),[],[],[.bool],[],[]⟩,none,fun p=>B2 p⟩
theorem D6:Db.ok Tryz.prog 84:=Au hm Tryz.func84 (fd:=An9) (by kernel_rfl) (Ak (l:=[]) (y:=[]) trivial trivial) (by kernel_rfl) (fun p=>by kernel_rfl)
def Akb:List TOp:=[oo 2 (.alloc [.pv (.int .i64 0),.pv (.int .i64 0),.pv (.int .i64 0)])]
def Akc:List TOp:=[oo 3 (.mov (.cst (.int .i64 0)))]
def Akd:List TOp:=[oo 4 (.mov (.tmp 3)),oo 5 (.mov (.tmp 0)),oo 6 (.len true (.tmp 5)),oo 7 (.bin false .lss (.tmp 4) (.tmp 6)),oo 8 (.mov (.tmp 7)),og 9 8 true .bool (.mov (.tmp 0)),og 10 8 true .bool (.mov (.tmp 3)),og 11 8 true .bool (.sidx (.tmp 9) (.tmp 10)),og 12 8 true .bool (.call 0 0 (.cst (.fn 82)) [(.tmp 11)] [] []),og 13 8 true .bool (.mov (.tmp 12)),og 14 13 false .bool (.mov (.tmp 0)),og 15 13 false .bool (.mov (.tmp 3)),og 16 13 false .bool (.sidx (.tmp 14) (.tmp 15)),og 17 13 false .bool (.call 0 0 (.cst (.fn 84)) [(.tmp 16)] [] []),og 18 8 true .bool (.pick (.tmp 13) (.cst (.bool true)) (.tmp 17)),og 19 8 true .bool (.mov (.tmp 18)),og 20 19 false .bool (.mov (.tmp 0)),og 21 19 false .bool (.mov (.tmp 3)),og 22 19 false .bool (.sidx (.tmp 20) (.tmp 21)),og 23 19 false .bool (.bin false .eql (.tmp 22) (.cst (.int .u8 95))),og 24 8 true .bool (.pick (.tmp 19) (.cst (.bool true)) (.tmp 23)),oo 25 (.pick (.tmp 8) (.tmp 24) (.cst (.bool false)))]
def Ake:List TOp:=[oo 26 (.mov (.tmp 3)),oo 27 (.bin false .add (.tmp 26) (.cst (.int .i64 1))),oo 3 (.mov (.tmp 27))]
def Aka:DC:=(.seq (.seq (.ops Akd) (.cond (.tmp 25) .skip (.exit 0))) (.pass 1 (.ops Ake)))
def Aj8:Kp:=⟨[],[(0,false),(2,false),(3,false)],[(.loc 2 0,false)],[],[]⟩
def Akg:Sig:=⟨[(0,none),(2,some (.ptr (.loc 2 0) 0)),(3,some (.ty (.int .i64)))],[(.loc 2 0,(.box [none,none,none]))],[(.int .i64)],[],[]⟩
def Aj9:Kp:=⟨[],[(2,false),(3,false)],[(.loc 2 0,false)],[],[]⟩
def Akh:Sig:=⟨[(2,some (.ptr (.loc 2 0) 0)),(3,some (.ty (.int .i64)))],[(.loc 2 0,(.box [none,none,none]))],[(.int .i64)],[],[]⟩
def Akf:List TOp:=[oo 28 (.mov (.tmp 3)),oo 29 (.bin false .gtr (.tmp 28) (.cst (.int .i64 32)))]
def Afq:List TOp:=[ot 30 (.st 8) (.build [.pv (.int .i64 0),.pv (.int .i64 0),.pv (.int .i64 0)] [(2,1,(.cst (.int .i64 3)))]),on (.store 3 (.tmp 2) (.tmp 30))]
def Ko:Kp:=⟨[],[(2,false)],[(.loc 2 0,false)],[],[]⟩
def Afr:List TOp:=[oo 31 (.mov (.tmp 3)),ot 32 (.st 8) (.build [.pv (.int .i64 0),.pv (.int .i64 0),.pv (.int .i64 0)] [(0,1,(.cst (.int .i64 0))),(1,1,(.tmp 31))]),on (.store 3 (.tmp 2) (.tmp 32))]
def Aq5:TFd:=⟨1,[(.cell 2 true 3,(.st 8))],[],(.seq (.ops Akb) (.seq (.ops Akc) (.seq (.join Aj9 Akh (.block 0 (.loop [0,2,3] [] Aj8 Akg Aka))) (.seq (.seq (.ops Akf) (.cond (.tmp 29) (.free (.seq (.ops Afq) (.keep Ko .ret))) .skip)) (.seq (.ops Afr) (.keep Ko .ret))))))⟩
noncomputable def Oe:Ent:=⟨[.ty .str],[],[.str],⟨(.ty (.st 8)),[],[],[(.st 8)],[],[]⟩,none,fun p=>Gu p⟩
theorem Ai4:Oe.ok Tryz.prog 83:=Au hm Tryz.func83 (fd:=Aq5) (by kernel_rfl) (Ak (l:=[(82,Gs),(84,Db)]) (y:=[]) ⟨Jd,D6,trivial⟩ trivial) (by kernel_rfl) (fun p=>by kernel_rfl)
def Z4:List TOp:=[oo 2 (.mov (.cst (.int .i64 0)))]
def Z5:List TOp:=[oo 3 (.mov (.cst (.int .i64 0)))]
def Z6:List TOp:=[oo 4 (.mov (.tmp 3)),oo 5 (.mov (.tmp 0)),oo 6 (.len true (.tmp 5)),oo 7 (.bin false .lss (.tmp 4) (.tmp 6)),oo 8 (.mov (.tmp 7)),og 9 8 true .bool (.mov (.tmp 0)),og 10 8 true .bool (.mov (.tmp 3)),og 11 8 true .bool (.sidx (.tmp 9) (.tmp 10)),og 12 8 true .bool (.call 0 0 (.cst (.fn 84)) [(.tmp 11)] [] []),oo 13 (.pick (.tmp 8) (.tmp 12) (.cst (.bool false)))]
def Z7:List TOp:=[oo 14 (.mov (.tmp 3)),oo 15 (.bin false .add (.tmp 14) (.cst (.int .i64 1))),oo 3 (.mov (.tmp 15))]
def Z3:DC:=(.seq (.seq (.ops Z6) (.cond (.tmp 13) .skip (.exit 0))) (.pass 1 (.ops Z7)))
def Z1:Kp:=⟨[],[(0,false),(3,false)],[],[],[]⟩
def Z9:Sig:=⟨[(0,none),(3,some (.ty (.int .i64)))],[],[(.int .i64)],[],[]⟩
def Z2:Kp:=⟨[],[(3,false)],[],[],[]⟩
def Aaa:Sig:=⟨[(3,some (.ty (.int .i64)))],[],[(.int .i64)],[],[]⟩
def Z8:List TOp:=[oo 16 (.mov (.tmp 3)),oo 2 (.mov (.tmp 16))]
def Wq:Kp:=⟨[],[(2,false)],[],[],[]⟩
def Ajn:TFd:=⟨1,[(.tmp 2,.bool)],[],(.seq (.ops Z4) (.seq (.ops Z5) (.seq (.join Z2 Aaa (.block 0 (.loop [0,3] [] Z1 Z9 Z3))) (.seq (.ops Z8) (.keep Wq .ret)))))⟩
noncomputable def Jz:Ent:=⟨[.ty .str],[],[.str],⟨(.ty (.int .i64)),[],[],[(.int .i64)],[],[]⟩,none,fun p=>Cv p⟩
theorem Y0:Jz.ok Tryz.prog 107:=Au hm Tryz.func107 (fd:=Ajn) (by kernel_rfl) (Ak (l:=[(84,Db)]) (y:=[]) ⟨D6,trivial⟩ trivial) (by kernel_rfl) (fun p=>by kernel_rfl)
def Aaf:List TOp:=[oo 2 (.alloc [.pv (.int .i64 0),.pv (.int .i64 0),.pv (.int .i64 0)])]
def Aag:List TOp:=[oo 5 (.mov (.tmp 0)),oo 6 (.call 0 0 (.cst (.fn 107)) [(.tmp 5)] [] []),oo 3 (.mov (.tmp 6))]
def Aah:List TOp:=[oo 4 (.mov (.cst (.int .i64 0)))]
def Aai:List TOp:=[oo 7 (.mov (.tmp 3)),oo 8 (.bin false .add (.tmp 7) (.cst (.int .i64 1))),oo 9 (.mov (.tmp 0)),oo 10 (.len true (.tmp 9)),oo 11 (.bin false .lss (.tmp 8) (.tmp 10)),oo 12 (.mov (.tmp 11)),og 13 12 true .bool (.mov (.tmp 0)),og 14 12 true .bool (.mov (.tmp 3)),og 15 12 true .bool (.sidx (.tmp 13) (.tmp 14)),og 16 12 true .bool (.bin false .eql (.tmp 15) (.cst (.int .u8 46))),oo 17 (.pick (.tmp 12) (.tmp 16) (.cst (.bool false))),oo 18 (.mov (.tmp 17)),og 19 18 true .bool (.mov (.tmp 0)),og 20 18 true .bool (.mov (.tmp 3)),og 21 18 true .bool (.bin false .add (.tmp 20) (.cst (.int .i64 1))),og 22 18 true .bool (.sidx (.tmp 19) (.tmp 21)),og 23 18 true .bool (.call 0 0 (.cst (.fn 84)) [(.tmp 22)] [] []),oo 24 (.pick (.tmp 18) (.tmp 23) (.cst (.bool false)))]
def Aaj:List TOp:=[oo 25 (.mov (.tmp 0)),oo 26 (.mov (.tmp 3)),oo 27 (.bin false .add (.tmp 26) (.cst (.int .i64 1))),oo 28 (.slc true 0 (.tmp 25) (some (.tmp 27)) none),oo 29 (.call 0 0 (.cst (.fn 107)) [(.tmp 28)] [] []),oo 4 (.mov (.tmp 29))]
def Aae:Kp:=⟨[],[(0,false),(2,false),(3,false),(4,false)],[(.loc 2 0,false)],[],[]⟩
def Aam:Sig:=⟨[(0,none),(2,some (.ptr (.loc 2 0) 0)),(3,none),(4,some (.ty (.int .i64)))],[(.loc 2 0,(.box [none,none,none]))],[(.int .i64)],[],[]⟩
def Aak:List TOp:=[oo 30 (.mov (.tmp 3)),oo 31 (.bin false .gtr (.tmp 30) (.cst (.int .i64 15))),oo 32 (.mov (.tmp 31)),og 33 32 false .bool (.mov (.tmp 4)),og 34 32 false .bool (.bin false .gtr (.tmp 33) (.cst (.int .i64 9))),oo 35 (.pick (.tmp 32) (.cst (.bool true)) (.tmp 34)),oo 36 (.mov (.tmp 35)),og 37 36 false .bool (.mov (.tmp 3)),og 38 36 false .bool (.bin false .gtr (.tmp 37) (.cst (.int .i64 1))),og 39 36 false .bool (.mov (.tmp 38)),og 40 39 true .bool (.mov (.tmp 0)),og 41 39 true .bool (.sidx (.tmp 40) (.cst (.int .i64 0))),og 42 39 true .bool (.bin false .eql (.tmp 41) (.cst (.int .u8 48))),og 43 36 false .bool (.pick (.tmp 39) (.tmp 42) (.cst (.bool false))),oo 44 (.pick (.tmp 36) (.cst (.bool true)) (.tmp 43))]
def Aal:List TOp:=[ot 45 (.st 8) (.build [.pv (.int .i64 0),.pv (.int .i64 0),.pv (.int .i64 0)] [(2,1,(.cst (.int .i64 3)))]),on (.store 3 (.tmp 2) (.tmp 45))]
def Gb:Kp:=⟨[],[(2,false)],[(.loc 2 0,false)],[],[]⟩
def Wr:List TOp:=[oo 46 (.mov (.tmp 4)),oo 47 (.bin false .gtr (.tmp 46) (.cst (.int .i64 0)))]
def Ws:List TOp:=[oo 48 (.mov (.tmp 3)),oo 49 (.bin false .add (.tmp 48) (.cst (.int .i64 1))),oo 50 (.mov (.tmp 4)),oo 51 (.bin false .add (.tmp 49) (.tmp 50)),ot 52 (.st 8) (.build [.pv (.int .i64 0),.pv (.int .i64 0),.pv (.int .i64 0)] [(0,1,(.cst (.int .i64 1))),(1,1,(.tmp 51))]),on (.store 3 (.tmp 2) (.tmp 52))]
def Wt:List TOp:=[oo 53 (.mov (.tmp 3)),ot 54 (.st 8) (.build [.pv (.int .i64 0),.pv (.int .i64 0),.pv (.int .i64 0)] [(0,1,(.cst (.int .i64 1))),(1,1,(.tmp 53))]),on (.store 3 (.tmp 2) (.tmp 54))]
def Ajx:TFd:=⟨1,[(.cell 2 true 3,(.st 8))],[],(.seq (.ops Aaf) (.seq (.ops Aag) (.seq (.ops Aah) (.seq (.seq (.ops Aai) (.join Aae Aam (.cond (.tmp 24) (.ops Aaj) .skip))) (.seq (.seq (.ops Aak) (.cond (.tmp 44) (.free (.seq (.ops Aal) (.keep Gb .ret))) .skip)) (.seq (.seq (.ops Wr) (.cond (.tmp 47) (.free (.seq (.ops Ws) (.keep Gb .ret))) .skip)) (.seq (.ops Wt) (.keep Gb .ret))))))))⟩
noncomputable def J0:Ent:=⟨[.ty .str],[],[.str],⟨(.ty (.st 8)),[],[],[(.st 8)],[],[]⟩,none,fun p=>E5 p⟩
theorem Y1:J0.ok Tryz.prog 85:=Au hm Tryz.func85 (fd:=Ajx) (by kernel_rfl) (Ak (l:=[(107,Jz),(84,Db)]) (y:=[]) ⟨Y0,D6,trivial⟩ trivial) (by kernel_rfl) (fun p=>by kernel_rfl)
def Aao:List TOp:=[oo 2 (.alloc [.pv (.int .i64 0),.pv (.int .i64 0),.pv (.int .i64 0)])]
def Aap:List TOp:=[oo 3 (.mov (.cst (.int .i64 1)))]
def Aaq:List TOp:=[oo 5 (.mov (.tmp 3)),oo 6 (.mov (.tmp 0)),oo 7 (.len true (.tmp 6)),oo 8 (.bin false .lss (.tmp 5) (.tmp 7)),oo 9 (.mov (.tmp 8)),og 10 9 true .bool (.mov (.tmp 0)),og 11 9 true .bool (.mov (.tmp 3)),og 12 9 true .bool (.sidx (.tmp 10) (.tmp 11)),og 13 9 true .bool (.bin false .neq (.tmp 12) (.cst (.int .u8 34))),oo 14 (.pick (.tmp 9) (.tmp 13) (.cst (.bool false)))]
def Aar:List TOp:=[oo 15 (.mov (.tmp 3)),oo 16 (.bin false .add (.tmp 15) (.cst (.int .i64 1))),oo 3 (.mov (.tmp 16))]
def Aan:DC:=(.seq (.seq (.ops Aaq) (.cond (.tmp 14) .skip (.exit 0))) (.pass 1 (.ops Aar)))
def Jo:Kp:=⟨[],[(0,false),(2,false),(3,false)],[(.loc 2 0,false)],[],[]⟩
def Jp:Sig:=⟨[(0,none),(2,some (.ptr (.loc 2 0) 0)),(3,some (.ty (.int .i64)))],[(.loc 2 0,(.box [none,none,none]))],[(.int .i64)],[],[]⟩
def Aas:List TOp:=[oo 17 (.mov (.tmp 3)),oo 18 (.mov (.tmp 0)),oo 19 (.len true (.tmp 18)),oo 20 (.bin false .eql (.tmp 17) (.tmp 19))]
def Aat:List TOp:=[ot 21 (.st 8) (.build [.pv (.int .i64 0),.pv (.int .i64 0),.pv (.int .i64 0)] [(2,1,(.cst (.int .i64 14)))]),on (.store 3 (.tmp 2) (.tmp 21))]
def Du:Kp:=⟨[],[(2,false)],[(.loc 2 0,false)],[],[]⟩
def Wx:List TOp:=[oo 4 (.mov (.cst (.int .i64 1)))]
def Wy:List TOp:=[oo 22 (.mov (.tmp 4)),oo 23 (.mov (.tmp 3)),oo 24 (.bin false .lss (.tmp 22) (.tmp 23))]
def Wz:List TOp:=[oo 27 (.mov (.tmp 0)),oo 28 (.mov (.tmp 4)),oo 29 (.sidx (.tmp 27) (.tmp 28)),oo 30 (.bin false .lss (.tmp 29) (.cst (.int .u8 32))),oo 31 (.mov (.tmp 30)),og 32 31 false .bool (.mov (.tmp 0)),og 33 31 false .bool (.mov (.tmp 4)),og 34 31 false .bool (.sidx (.tmp 32) (.tmp 33)),og 35 31 false .bool (.bin false .gtr (.tmp 34) (.cst (.int .u8 126))),oo 36 (.pick (.tmp 31) (.cst (.bool true)) (.tmp 35))]
def W0:List TOp:=[ot 37 (.st 8) (.build [.pv (.int .i64 0),.pv (.int .i64 0),.pv (.int .i64 0)] [(2,1,(.cst (.int .i64 3)))]),on (.store 3 (.tmp 2) (.tmp 37))]
def W1:List TOp:=[oo 25 (.mov (.tmp 4)),oo 26 (.bin false .add (.tmp 25) (.cst (.int .i64 1))),oo 4 (.mov (.tmp 26))]
def Ww:DC:=(.seq (.seq (.ops Wy) (.cond (.tmp 24) .skip (.exit 2))) (.seq (.pass 3 (.seq (.ops Wz) (.cond (.tmp 36) (.free (.seq (.ops W0) (.keep Du .ret))) .skip))) (.ops W1)))
def Wu:Kp:=⟨[],[(0,false),(2,false),(3,false),(4,false)],[(.loc 2 0,false)],[],[]⟩
def W6:Sig:=⟨[(0,none),(2,some (.ptr (.loc 2 0) 0)),(3,none),(4,some (.ty (.int .i64)))],[(.loc 2 0,(.box [none,none,none]))],[(.int .i64)],[],[]⟩
def Wv:Kp:=⟨[],[(2,false),(3,false)],[(.loc 2 0,false)],[],[]⟩
def W7:Sig:=⟨[(2,some (.ptr (.loc 2 0) 0)),(3,none)],[(.loc 2 0,(.box [none,none,none]))],[],[],[]⟩
def W3:List TOp:=[oo 38 (.mov (.tmp 3)),oo 39 (.bin false .gtr (.tmp 38) (.cst (.int .i64 33)))]
def W4:List TOp:=[ot 40 (.st 8) (.build [.pv (.int .i64 0),.pv (.int .i64 0),.pv (.int .i64 0)] [(2,1,(.cst (.int .i64 3)))]),on (.store 3 (.tmp 2) (.tmp 40))]
def W5:List TOp:=[oo 41 (.mov (.tmp 3)),oo 42 (.bin false .add (.tmp 41) (.cst (.int .i64 1))),ot 43 (.st 8) (.build [.pv (.int .i64 0),.pv (.int .i64 0),.pv (.int .i64 0)] [(0,1,(.cst (.int .i64 2))),(1,1,(.tmp 42))]),on (.store 3 (.tmp 2) (.tmp 43))]
def Ajy:TFd:=⟨1,[(.cell 2 true 3,(.st 8))],[],(.seq (.ops Aao) (.seq (.ops Aap) (.seq (.join Jo Jp (.block 0 (.loop [0,2,3] [] Jo Jp Aan))) (.seq (.seq (.ops Aas) (.cond (.tmp 20) (.free (.seq (.ops Aat) (.keep Du .ret))) .skip)) (.seq (.seq (.ops Wx) (.joinO Wv W7 (.block 2 (.loop [0,2,3,4] [] Wu W6 Ww)))) (.seq (.seq (.ops W3) (.cond (.tmp 39) (.free (.seq (.ops W4) (.keep Du .ret))) .skip)) (.seq (.ops W5) (.keep Du .ret))))))))⟩
noncomputable def J1:Ent:=⟨[.ty .str],[],[.str],⟨(.ty (.st 8)),[],[],[(.st 8)],[],[]⟩,none,fun p=>E6 p⟩
theorem Y2:J1.ok Tryz.prog 86:=Au hm Tryz.func86 (fd:=Ajy) (by kernel_rfl) (Ak (l:=[]) (y:=[]) trivial trivial) (by kernel_rfl) (fun p=>by kernel_rfl)
def Ajz:List TOp:=[oo 2 (.alloc [.pv (.int .i64 0),.pv (.int .i64 0),.pv (.int .i64 0)])]
def Aj0:List TOp:=[oo 5 (.mov (.tmp 0)),oo 6 (.len true (.tmp 5)),oo 7 (.bin false .gtr (.tmp 6) (.cst (.int .i64 1))),oo 8 (.mov (.tmp 7)),og 9 8 true .bool (.mov (.tmp 0)),og 10 8 true .bool (.slc true 0 (.tmp 9) none (some (.cst (.int .i64 2)))),og 11 8 true .bool (.bin false .eql (.tmp 10) (.cst (.str [60,61]))),og 12 8 true .bool (.mov (.tmp 11)),og 13 12 false .bool (.mov (.tmp 0)),og 14 12 false .bool (.slc true 0 (.tmp 13) none (some (.cst (.int .i64 2)))),og 15 12 false .bool (.bin false .eql (.tmp 14) (.cst (.str [62,61]))),og 16 8 true .bool (.pick (.tmp 12) (.cst (.bool true)) (.tmp 15)),og 17 8 true .bool (.mov (.tmp 16)),og 18 17 false .bool (.mov (.tmp 0)),og 19 17 false .bool (.slc true 0 (.tmp 18) none (some (.cst (.int .i64 2)))),og 20 17 false .bool (.bin false .eql (.tmp 19) (.cst (.str [46,46]))),og 21 8 true .bool (.pick (.tmp 17) (.cst (.bool true)) (.tmp 20)),oo 22 (.pick (.tmp 8) (.tmp 21) (.cst (.bool false)))]
def Aj1:List TOp:=[ot 23 (.st 8) (.build [.pv (.int .i64 0),.pv (.int .i64 0),.pv (.int .i64 0)] [(0,1,(.cst (.int .i64 3))),(1,1,(.cst (.int .i64 2)))]),on (.store 3 (.tmp 2) (.tmp 23))]
def Eu:Kp:=⟨[],[(2,false)],[(.loc 2 0,false)],[],[]⟩
def Aj2:List TOp:=[oo 3 (.mov (.cst (.str [123,125,40,41,91,93,59,58,44,37,61,60,62,43,45,42,47])))]
def Aj3:List TOp:=[oo 4 (.mov (.cst (.int .i64 0)))]
def Aj4:List TOp:=[oo 24 (.mov (.tmp 4)),oo 25 (.mov (.tmp 3)),oo 26 (.len true (.tmp 25)),oo 27 (.bin false .lss (.tmp 24) (.tmp 26))]
def Aj5:List TOp:=[oo 30 (.mov (.tmp 3)),oo 31 (.mov (.tmp 4)),oo 32 (.sidx (.tmp 30) (.tmp 31)),oo 33 (.mov (.tmp 0)),oo 34 (.sidx (.tmp 33) (.cst (.int .i64 0))),oo 35 (.bin false .eql (.tmp 32) (.tmp 34))]
def Aj6:List TOp:=[ot 36 (.st 8) (.build [.pv (.int .i64 0),.pv (.int .i64 0),.pv (.int .i64 0)] [(0,1,(.cst (.int .i64 3))),(1,1,(.cst (.int .i64 1)))]),on (.store 3 (.tmp 2) (.tmp 36))]
def Aj7:List TOp:=[oo 28 (.mov (.tmp 4)),oo 29 (.bin false .add (.tmp 28) (.cst (.int .i64 1))),oo 4 (.mov (.tmp 29))]
def Afm:DC:=(.seq (.seq (.ops Aj4) (.cond (.tmp 27) .skip (.exit 0))) (.seq (.pass 1 (.seq (.draw [] Aj5) (.cond (.tmp 35) (.free (.seq (.ops Aj6) (.keep Eu .ret))) .skip))) (.ops Aj7)))
def Afl:Kp:=⟨[],[(0,false),(2,false),(3,false),(4,false)],[(.loc 2 0,false)],[],[]⟩
def Afo:Sig:=⟨[(0,none),(2,some (.ptr (.loc 2 0) 0)),(3,none),(4,some (.ty (.int .i64)))],[(.loc 2 0,(.box [none,none,none]))],[(.int .i64)],[],[]⟩
def Afp:Sig:=⟨[(2,some (.ptr (.loc 2 0) 0))],[(.loc 2 0,(.box [none,none,none]))],[],[],[]⟩
def Afn:List TOp:=[ot 37 (.st 8) (.build [.pv (.int .i64 0),.pv (.int .i64 0),.pv (.int .i64 0)] [(2,1,(.cst (.int .i64 14)))]),on (.store 3 (.tmp 2) (.tmp 37))]
def Aq4:TFd:=⟨1,[(.cell 2 true 3,(.st 8))],[],(.seq (.ops Ajz) (.seq (.seq (.ops Aj0) (.cond (.tmp 22) (.free (.seq (.ops Aj1) (.keep Eu .ret))) .skip)) (.seq (.ops Aj2) (.seq (.seq (.ops Aj3) (.joinO Eu Afp (.block 0 (.loop [0,2,3,4] [] Afl Afo Afm)))) (.seq (.ops Afn) (.keep Eu .ret))))))⟩
noncomputable def Od:Ent:=⟨[.ty .str],[],[.str],⟨(.ty (.st 8)),[],[],[(.st 8)],[],[]⟩,none,fun p=>Gt p⟩
theorem Ai3:Od.ok Tryz.prog 87:=Au hm Tryz.func87 (fd:=Aq4) (by kernel_rfl) (Ak (l:=[]) (y:=[]) trivial trivial) (by kernel_rfl) (fun p=>by kernel_rfl)
def Ajp:List TOp:=[oo 2 (.alloc [.pv (.int .i64 0),.pv (.int .i64 0),.pv (.int .i64 0)])]
def Ajq:List TOp:=[oo 3 (.mov (.tmp 0)),oo 4 (.sidx (.tmp 3) (.cst (.int .i64 0))),oo 5 (.call 0 0 (.cst (.fn 82)) [(.tmp 4)] [] [])]
def Ajr:List TOp:=[oo 6 (.mov (.tmp 0)),oo 7 (.call 0 0 (.cst (.fn 83)) [(.tmp 6)] [] []),on (.store 3 (.tmp 2) (.tmp 7))]
def Et:Kp:=⟨[],[(2,false)],[(.loc 2 0,false)],[],[]⟩
def Ajs:List TOp:=[oo 8 (.mov (.tmp 0)),oo 9 (.sidx (.tmp 8) (.cst (.int .i64 0))),oo 10 (.call 0 0 (.cst (.fn 84)) [(.tmp 9)] [] [])]
def Ajt:List TOp:=[oo 11 (.mov (.tmp 0)),oo 12 (.call 0 0 (.cst (.fn 85)) [(.tmp 11)] [] []),on (.store 3 (.tmp 2) (.tmp 12))]
def Aju:List TOp:=[oo 13 (.mov (.tmp 0)),oo 14 (.sidx (.tmp 13) (.cst (.int .i64 0))),oo 15 (.bin false .eql (.tmp 14) (.cst (.int .u8 34)))]
def Ajv:List TOp:=[oo 16 (.mov (.tmp 0)),oo 17 (.call 0 0 (.cst (.fn 86)) [(.tmp 16)] [] []),on (.store 3 (.tmp 2) (.tmp 17))]
def Ajw:List TOp:=[oo 18 (.mov (.tmp 0)),oo 19 (.call 0 0 (.cst (.fn 87)) [(.tmp 18)] [] []),on (.store 3 (.tmp 2) (.tmp 19))]
def Aq3:TFd:=⟨1,[(.cell 2 true 3,(.st 8))],[],(.seq (.ops Ajp) (.seq (.seq (.ops Ajq) (.cond (.tmp 5) (.free (.seq (.ops Ajr) (.keep Et .ret))) .skip)) (.seq (.seq (.ops Ajs) (.cond (.tmp 10) (.free (.seq (.ops Ajt) (.keep Et .ret))) .skip)) (.seq (.seq (.ops Aju) (.cond (.tmp 15) (.free (.seq (.ops Ajv) (.keep Et .ret))) .skip)) (.seq (.ops Ajw) (.keep Et .ret))))))⟩
noncomputable def Hq:Ent:=⟨[.ty .str],[],[.str],⟨(.ty (.st 8)),[],[],[(.st 8)],[],[]⟩,none,fun p=>Df p⟩
theorem Lv:Hq.ok Tryz.prog 51:=Au hm Tryz.func51 (fd:=Aq3) (by kernel_rfl) (Ak (l:=[(82,Gs),(83,Oe),(84,Db),(85,J0),(86,J1),(87,Od)]) (y:=[]) ⟨Jd,Ai4,D6,Y1,Y2,Ai3,trivial⟩ trivial) (by kernel_rfl) (fun p=>by kernel_rfl)
def Aew:List TOp:=[oo 4 (.mov (.cst (.int .i64 0))),oo 5 (.mov (.cst (.int .i64 0)))]
def Aex:List TOp:=[oo 6 (.mov (.cst (.int .i64 1)))]
def Aey:List TOp:=[oo 7 (.mov (.cst (.int .i64 1)))]
def Aez:List TOp:=[oo 8 (.mov (.cst (.int .i64 0)))]
def Ae0:List TOp:=[oo 9 (.mov (.tmp 8)),oo 10 (.mov (.tmp 1)),oo 11 (.bin false .lss (.tmp 9) (.tmp 10))]
def Ae1:List TOp:=[oo 14 (.mov (.tmp 7)),oo 15 (.bin false .add (.tmp 14) (.cst (.int .i64 1))),oo 7 (.mov (.tmp 15))]
def Ae2:List TOp:=[oo 16 (.mov (.tmp 0)),oo 17 (.mov (.tmp 8)),oo 18 (.sidx (.tmp 16) (.tmp 17)),oo 19 (.bin false .eql (.tmp 18) (.cst (.int .u8 10)))]
def Ae3:List TOp:=[oo 20 (.mov (.tmp 6)),oo 21 (.bin false .add (.tmp 20) (.cst (.int .i64 1))),oo 6 (.mov (.tmp 21))]
def Ae4:List TOp:=[oo 7 (.mov (.cst (.int .i64 1)))]
def Kk:Kp:=⟨[],[(0,false),(1,false),(6,false),(7,false),(8,false)],[],[],[]⟩
def Zs:Sig:=⟨[(0,none),(1,none),(6,some (.ty (.int .i64))),(7,some (.ty (.int .i64))),(8,none)],[],[(.int .i64),(.int .i64)],[],[]⟩
def Zq:List TOp:=[oo 12 (.mov (.tmp 8)),oo 13 (.bin false .add (.tmp 12) (.cst (.int .i64 1))),oo 8 (.mov (.tmp 13))]
def Zp:DC:=(.seq (.seq (.ops Ae0) (.cond (.tmp 11) .skip (.exit 0))) (.seq (.pass 1 (.seq (.ops Ae1) (.seq (.ops Ae2) (.join Kk Zs (.cond (.tmp 19) (.seq (.ops Ae3) (.ops Ae4)) .skip))))) (.ops Zq)))
def Zt:Sig:=⟨[(0,none),(1,none),(6,some (.ty (.int .i64))),(7,some (.ty (.int .i64))),(8,some (.ty (.int .i64)))],[],[(.int .i64),(.int .i64),(.int .i64)],[],[]⟩
def Zn:Kp:=⟨[],[(6,false),(7,false)],[],[],[]⟩
def Zu:Sig:=⟨[(6,some (.ty (.int .i64))),(7,some (.ty (.int .i64)))],[],[(.int .i64),(.int .i64)],[],[]⟩
def Zr:List TOp:=[oo 22 (.mov (.tmp 6)),oo 23 (.mov (.tmp 7)),oo 4 (.mov (.tmp 22)),oo 5 (.mov (.tmp 23))]
def Zo:Kp:=⟨[],[(4,false),(5,false)],[],[],[]⟩
def An6:TFd:=⟨2,[(.tmp 4,.bool),(.tmp 5,.bool)],[],(.seq (.ops Aew) (.seq (.ops Aex) (.seq (.ops Aey) (.seq (.seq (.ops Aez) (.join Zn Zu (.block 0 (.loop [0,1,6,7,8] [] Kk Zt Zp)))) (.seq (.ops Zr) (.keep Zo .ret))))))⟩
noncomputable def Es:Ent:=⟨[.ty .str,.ty (.int .i64)],[],[.str,(.int .i64)],⟨(.tup [(.ty (.int .i64)),(.ty (.int .i64))]),[],[],[(.int .i64),(.int .i64)],[],[]⟩,none,fun p=>Ci p.1 p.2⟩
theorem Gr:Es.ok Tryz.prog 32:=Au hm Tryz.func32 (fd:=An6) (by kernel_rfl) (Ak (l:=[]) (y:=[]) trivial trivial) (by kernel_rfl) (fun p=>by kernel_rfl)
def Anv:List TOp:=[oo 2 (.mov .nils),oo 3 (.mov (.cst (.int .i64 0))),oo 4 (.mov (.cst (.int .i64 0)))]
def Anw:List TOp:=[oo 10 (.mov (.tmp 0)),oo 11 (.len true (.tmp 10)),oo 12 (.bin false .gtr (.tmp 11) (.cst (.int .i64 8000)))]
def Anx:List TOp:=[oo 2 (.mov .nils),oo 3 (.mov (.cst (.int .i64 0))),oo 4 (.mov (.cst (.int .i64 4)))]
def Fe:Kp:=⟨[],[(2,true),(3,false),(4,false)],[],[],[]⟩
def Anz:List TOp:=[ot 13 (.st 2) (.lit false 4 []),oo 5 (.mov (.tmp 13))]
def An0:List TOp:=[oo 14 (.mov (.tmp 0)),oo 15 (.call 0 0 (.cst (.fn 50)) [(.tmp 14)] [] []),oo 6 (.mov (.tmp 15))]
def An1:List TOp:=[oo 16 (.mov (.tmp 6)),oo 17 (.mov (.tmp 0)),oo 18 (.len true (.tmp 17)),oo 19 (.bin false .lss (.tmp 16) (.tmp 18))]
def An3:List TOp:=[oo 20 (.mov (.tmp 0)),oo 21 (.mov (.tmp 6)),oo 22 (.slc true 0 (.tmp 20) (some (.tmp 21)) none),oo 23 (.call 0 0 (.cst (.fn 51)) [(.tmp 22)] [] []),oo 7 (.alloc [.pv (.int .i64 0),.pv (.int .i64 0),.pv (.int .i64 0)]),on (.store 3 (.tmp 7) (.tmp 23))]
def An4:List TOp:=[oo 24 (.fld 2 (.tmp 7)),oo 25 (.load false 1 (.tmp 24)),oo 26 (.bin false .neq (.tmp 25) (.cst (.int .i64 0)))]
def An5:List TOp:=[oo 27 (.mov (.tmp 6)),oo 28 (.fld 2 (.tmp 7)),oo 29 (.load false 1 (.tmp 28)),oo 2 (.mov .nils),oo 3 (.mov (.tmp 27)),oo 4 (.mov (.tmp 29))]
def Aje:List TOp:=[oo 30 (.mov (.tmp 5)),oo 31 (.len false (.tmp 30)),oo 32 (.bin false .eql (.tmp 31) (.cst (.int .i64 1500)))]
def Ajf:List TOp:=[oo 33 (.mov (.tmp 6)),oo 2 (.mov .nils),oo 3 (.mov (.tmp 33)),oo 4 (.mov (.cst (.int .i64 6)))]
def Ajg:List TOp:=[oo 35 (.mov (.tmp 0)),oo 36 (.mov (.tmp 6)),oo 37 (.call 0 0 (.cst (.fn 32)) [(.tmp 35),(.tmp 36)] [] []),oo 34 (.mov (.tmp 37)),oo 38 (.ext 0 (.tmp 34)),oo 39 (.ext 1 (.tmp 34)),oo 8 (.mov (.tmp 38)),oo 9 (.mov (.tmp 39))]
def Ajh:List TOp:=[oo 40 (.mov (.tmp 5)),oo 41 (.fld 0 (.tmp 7)),oo 42 (.load false 1 (.tmp 41)),oo 43 (.mov (.tmp 8)),oo 44 (.mov (.tmp 9)),oo 45 (.mov (.tmp 0)),oo 46 (.mov (.tmp 6)),oo 47 (.mov (.tmp 6)),oo 48 (.fld 1 (.tmp 7)),oo 49 (.load false 1 (.tmp 48)),oo 50 (.bin false .add (.tmp 47) (.tmp 49)),oo 51 (.slc true 0 (.tmp 45) (some (.tmp 46)) (some (.tmp 50))),ot 52 (.st 2) (.build [.pv (.int .i64 0),.pv (.int .i64 0),.pv (.int .i64 0),.pv (.str [])] [(0,1,(.tmp 42)),(1,1,(.tmp 43)),(2,1,(.tmp 44)),(3,1,(.tmp 51))]),ot 53 (.st 2) (.lit false 4 [(.tmp 52)]),ot 54 (.st 2) (.append 54 4 40 (.tmp 40) (.tmp 53)),oo 5 (.mov (.tmp 54))]
def Aji:List TOp:=[oo 55 (.mov (.tmp 6)),oo 56 (.fld 1 (.tmp 7)),oo 57 (.load false 1 (.tmp 56)),oo 58 (.bin false .add (.tmp 55) (.tmp 57)),oo 6 (.mov (.tmp 58))]
def Ajj:List TOp:=[oo 59 (.mov (.tmp 6)),oo 60 (.mov (.tmp 0)),oo 61 (.mov (.tmp 6)),oo 62 (.slc true 0 (.tmp 60) (some (.tmp 61)) none),oo 63 (.call 0 0 (.cst (.fn 50)) [(.tmp 62)] [] []),oo 64 (.bin false .add (.tmp 59) (.tmp 63)),oo 6 (.mov (.tmp 64))]
def Ajd:DC:=(.seq (.seq (.ops An1) (.cond (.tmp 19) .skip (.exit 0))) (.pass 1 (.seq (.ops An3) (.seq (.seq (.ops An4) (.cond (.tmp 26) (.free (.seq (.draw [] An5) (.keep Fe .ret))) .skip)) (.seq (.seq (.ops Aje) (.cond (.tmp 32) (.free (.seq (.ops Ajf) (.keep Fe .ret))) .skip)) (.seq (.ops Ajg) (.seq (.draw [] Ajh) (.seq (.ops Aji) (.ops Ajj)))))))))
def Ajb:Kp:=⟨[],[(0,false),(5,false),(6,false)],[(.loc 54 0,false)],[.loc 7 0],[((.slot 5 (.loc 54 0) 4),(.st 2))]⟩
def Ajl:Sig:=⟨[(0,none),(5,some (.own (.loc 54 0))),(6,some (.ty (.int .i64)))],[(.loc 54 0,(.row (.st 2)))],[(.int .i64),(.sl (.st 2))],[],[]⟩
def Ajc:Kp:=⟨[.loc 54 0],[(5,true)],[],[],[]⟩
def Ajm:Sig:=⟨[(5,some (.ty (.sl (.st 2))))],[],[(.sl (.st 2))],[],[]⟩
def Ajk:List TOp:=[oo 65 (.mov (.tmp 5)),oo 2 (.mov (.tmp 65)),oo 3 (.mov (.cst (.int .i64 0))),oo 4 (.mov (.cst (.int .i64 0)))]
def At3:TFd:=⟨1,[(.tmp 2,.bool),(.tmp 3,.bool),(.tmp 4,.bool)],[],(.seq (.ops Anv) (.seq (.seq (.ops Anw) (.cond (.tmp 12) (.free (.seq (.ops Anx) (.keep Fe .ret))) .skip)) (.seq (.ops Anz) (.seq (.ops An0) (.seq (.joinO Ajc Ajm (.block 0 (.loop [0,5,6] [] Ajb Ajl Ajd))) (.seq (.ops Ajk) (.keep Fe .ret)))))))⟩
noncomputable def Qo:Ent:=⟨[.ty .str],[],[.str],⟨(.tup [(.ty (.sl (.st 2))),(.ty (.int .i64)),(.ty (.int .i64))]),[],[],[(.sl (.st 2)),(.int .i64),(.int .i64)],[],[]⟩,none,fun p=>C1 p⟩
theorem Amp:Qo.ok Tryz.prog 26:=Au hm Tryz.func26 (fd:=At3) (by kernel_rfl) (Ak (l:=[(50,Lu),(51,Hq),(32,Es)]) (y:=[]) ⟨Adz,Lv,Gr,trivial⟩ trivial) (by kernel_rfl) (fun p=>by kernel_rfl)
def Arh:List TOp:=[oo 6 (.mov (.cst (.bool false)))]
def Ari:List TOp:=[oo 7 (.mov (.tmp 1)),oo 8 (.mov (.tmp 0)),oo 9 (.len false (.tmp 8)),oo 10 (.bin false .lss (.tmp 7) (.tmp 9)),oo 11 (.mov (.tmp 10)),og 12 11 true .bool (.mov (.tmp 0)),og 13 11 true .bool (.mov (.tmp 1)),og 14 11 true .bool (.idx 4 (.tmp 12) (.tmp 13)),og 15 11 true .bool (.fld 0 (.tmp 14)),og 16 11 true .bool (.load false 1 (.tmp 15)),og 17 11 true .bool (.bin false .neq (.tmp 16) (.cst (.int .i64 2))),oo 18 (.pick (.tmp 11) (.tmp 17) (.cst (.bool false))),oo 19 (.mov (.tmp 18)),og 20 19 true .bool (.mov (.tmp 0)),og 21 19 true .bool (.mov (.tmp 1)),og 22 19 true .bool (.idx 4 (.tmp 20) (.tmp 21)),og 23 19 true .bool (.fld 3 (.tmp 22)),og 24 19 true .bool (.load false 1 (.tmp 23)),og 25 19 true .bool (.mov (.tmp 2)),og 26 19 true .bool (.bin false .eql (.tmp 24) (.tmp 25)),oo 27 (.pick (.tmp 19) (.tmp 26) (.cst (.bool false))),oo 6 (.mov (.tmp 27))]
def Arg:Kp:=⟨[],[(6,false)],[],[],[]⟩
def Awb:TFd:=⟨3,[(.tmp 6,.bool)],[],(.seq (.ops Arh) (.seq (.ops Ari) (.keep Arg .ret)))⟩
def Ei:Ent:=⟨[.ty (.sl (.st 2)),.ty (.int .i64),.ty .str],[],[(.sl (.st 2)),(.int .i64),.str],⟨(.ty .bool),[],[],[.bool],[],[]⟩,none,fun p=>A4 p.1 p.2.1 p.2.2⟩
theorem Fz:Ei.ok Tryz.prog 94:=Au hm Tryz.func94 (fd:=Awb) (by kernel_rfl) (Ak (l:=[]) (y:=[]) trivial trivial) (by kernel_rfl) (fun p=>by kernel_rfl)
def Aq8:List TOp:=[oo 4 (.mov (.cst (.bool false)))]
def Aq9:List TOp:=[oo 5 (.mov (.cst (.int .i64 0)))]
def Ara:List TOp:=[oo 6 (.mov (.tmp 5)),oo 7 (.mov (.tmp 0)),oo 8 (.len false (.tmp 7)),oo 9 (.bin false .lss (.tmp 6) (.tmp 8))]
def Arb:List TOp:=[oo 12 (.mov (.tmp 0)),oo 13 (.mov (.tmp 5)),oo 14 (.idx 1 (.tmp 12) (.tmp 13)),oo 15 (.load false 1 (.tmp 14)),oo 16 (.mov (.tmp 1)),oo 17 (.bin false .eql (.tmp 15) (.tmp 16))]
def Arc:List TOp:=[oo 4 (.mov (.cst (.bool true)))]
def Qv:Kp:=⟨[],[(4,false)],[],[],[]⟩
def Ard:List TOp:=[oo 10 (.mov (.tmp 5)),oo 11 (.bin false .add (.tmp 10) (.cst (.int .i64 1))),oo 5 (.mov (.tmp 11))]
def Aq7:DC:=(.seq (.seq (.ops Ara) (.cond (.tmp 9) .skip (.exit 0))) (.seq (.pass 1 (.seq (.ops Arb) (.cond (.tmp 17) (.free (.seq (.ops Arc) (.keep Qv .ret))) .skip))) (.ops Ard)))
def Aq6:Kp:=⟨[],[(0,false),(1,false),(5,false)],[],[],[]⟩
def Are:Sig:=⟨[(0,none),(1,none),(5,some (.ty (.int .i64)))],[],[(.int .i64)],[],[]⟩
def Aou:Kp:=⟨[],[],[],[],[]⟩
def Aow:Sig:=⟨[],[],[],[],[]⟩
def Aov:List TOp:=[oo 4 (.mov (.cst (.bool false)))]
def Awa:TFd:=⟨2,[(.tmp 4,.bool)],[],(.seq (.ops Aq8) (.seq (.seq (.ops Aq9) (.joinO Aou Aow (.block 0 (.loop [0,1,5] [] Aq6 Are Aq7)))) (.seq (.ops Aov) (.keep Qv .ret))))⟩
noncomputable def Sr:Ent:=⟨[.ty (.sl .str),.ty .str],[],[(.sl .str),.str],⟨(.ty .bool),[],[],[.bool],[],[]⟩,none,fun p=>F6 p.1 p.2⟩
theorem Aqz:Sr.ok Tryz.prog 116:=Au hm Tryz.func116 (fd:=Awa) (by kernel_rfl) (Ak (l:=[]) (y:=[]) trivial trivial) (by kernel_rfl) (fun p=>by kernel_rfl)
def Aoz:List TOp:=[oo 4 (.mov (.cst (.bool false)))]
def Ao0:List TOp:=[ot 7 .str (.lit false 1 [(.cst (.str [105,102])),(.cst (.str [116,104,101,110])),(.cst (.str [101,108,115,101])),(.cst (.str [97,110,100])),(.cst (.str [111,114])),(.cst (.str [110,111,116])),(.cst (.str [109,105,110])),(.cst (.str [109,97,120]))]),oo 8 (.mov (.tmp 0)),oo 9 (.call 0 0 (.cst (.fn 116)) [(.tmp 7),(.tmp 8)] [] []),oo 5 (.mov (.tmp 9))]
def Ao1:List TOp:=[ot 10 .str (.lit false 1 [(.cst (.str [112,114,111,100,117,99,116])),(.cst (.str [98,97,115,105,115])),(.cst (.str [112,101,114,105,111,100])),(.cst (.str [116,105,101,114,115])),(.cst (.str [102,101,101])),(.cst (.str [109,105,110,105,109,117,109])),(.cst (.str [111,118,101,114,100,114,97,102,116])),(.cst (.str [110,111,116,105,99,101]))]),oo 11 (.mov (.tmp 0)),oo 12 (.call 0 0 (.cst (.fn 116)) [(.tmp 10),(.tmp 11)] [] []),oo 6 (.mov (.tmp 12))]
def Ao2:List TOp:=[oo 13 (.mov (.tmp 5)),oo 14 (.mov (.tmp 13)),og 15 14 false .bool (.mov (.tmp 1)),og 16 14 false .bool (.mov (.tmp 15)),og 17 16 true .bool (.mov (.tmp 6)),og 18 14 false .bool (.pick (.tmp 16) (.tmp 17) (.cst (.bool false))),oo 19 (.pick (.tmp 14) (.cst (.bool true)) (.tmp 18)),oo 4 (.mov (.tmp 19))]
def Aoy:Kp:=⟨[],[(4,false)],[],[],[]⟩
def At6:TFd:=⟨2,[(.tmp 4,.bool)],[],(.seq (.ops Aoz) (.seq (.ops Ao0) (.seq (.ops Ao1) (.seq (.ops Ao2) (.keep Aoy .ret)))))⟩
noncomputable def Fx:Ent:=⟨[.ty .str,.ty .bool],[],[.str,.bool],⟨(.ty .bool),[],[],[.bool],[],[]⟩,none,fun p=>Ds p.1 p.2⟩
theorem Hr:Fx.ok Tryz.prog 97:=Au hm Tryz.func97 (fd:=At6) (by kernel_rfl) (Ak (l:=[(116,Sr)]) (y:=[]) ⟨Aqz,trivial⟩ trivial) (by kernel_rfl) (fun p=>by kernel_rfl)
def Alm:List TOp:=[oo 1 (.box (.tmp 0)),oo 2 (.mov (.cst (.int .i64 0))),oo 3 (.mov (.cst (.int .i64 0)))]
def Aln:List TOp:=[oo 4 (.fld 0 (.tmp 1)),oo 5 (.load false 1 (.tmp 4)),oo 6 (.bin false .eql (.tmp 5) (.cst (.int .i64 2)))]
def Alo:List TOp:=[oo 2 (.mov (.cst (.int .i64 0))),oo 3 (.mov (.cst (.int .i64 0)))]
def A7:Kp:=⟨[],[(2,false),(3,false)],[],[],[]⟩
def Alp:List TOp:=[oo 7 (.fld 3 (.tmp 1)),oo 8 (.load false 1 (.tmp 7))]
def Alq:List TOp:=[oo 10 (.bin false .eql (.tmp 8) (.cst (.str [111,114]))),oo 9 (.mov (.tmp 10))]
def Alr:List TOp:=[oo 2 (.mov (.cst (.int .i64 13))),oo 3 (.mov (.cst (.int .i64 1)))]
def Als:List TOp:=[oo 12 (.bin false .eql (.tmp 8) (.cst (.str [97,110,100]))),oo 11 (.mov (.tmp 12))]
def Alt:List TOp:=[oo 2 (.mov (.cst (.int .i64 12))),oo 3 (.mov (.cst (.int .i64 2)))]
def Alu:List TOp:=[oo 14 (.bin false .eql (.tmp 8) (.cst (.str [60]))),oo 13 (.mov (.tmp 14))]
def Ahf:List TOp:=[oo 2 (.mov (.cst (.int .i64 7))),oo 3 (.mov (.cst (.int .i64 4)))]
def Ahg:List TOp:=[oo 16 (.bin false .eql (.tmp 8) (.cst (.str [60,61]))),oo 15 (.mov (.tmp 16))]
def Ahh:List TOp:=[oo 2 (.mov (.cst (.int .i64 8))),oo 3 (.mov (.cst (.int .i64 4)))]
def Ahi:List TOp:=[oo 18 (.bin false .eql (.tmp 8) (.cst (.str [61]))),oo 17 (.mov (.tmp 18))]
def Ahj:List TOp:=[oo 2 (.mov (.cst (.int .i64 9))),oo 3 (.mov (.cst (.int .i64 4)))]
def Ahk:List TOp:=[oo 20 (.bin false .eql (.tmp 8) (.cst (.str [62]))),oo 19 (.mov (.tmp 20))]
def Ahl:List TOp:=[oo 2 (.mov (.cst (.int .i64 10))),oo 3 (.mov (.cst (.int .i64 4)))]
def Ahm:List TOp:=[oo 22 (.bin false .eql (.tmp 8) (.cst (.str [62,61]))),oo 21 (.mov (.tmp 22))]
def Ahn:List TOp:=[oo 2 (.mov (.cst (.int .i64 11))),oo 3 (.mov (.cst (.int .i64 4)))]
def Aho:List TOp:=[oo 24 (.bin false .eql (.tmp 8) (.cst (.str [43]))),oo 23 (.mov (.tmp 24))]
def Ahp:List TOp:=[oo 2 (.mov (.cst (.int .i64 3))),oo 3 (.mov (.cst (.int .i64 5)))]
def Ahq:List TOp:=[oo 26 (.bin false .eql (.tmp 8) (.cst (.str [45]))),oo 25 (.mov (.tmp 26))]
def Ahr:List TOp:=[oo 2 (.mov (.cst (.int .i64 4))),oo 3 (.mov (.cst (.int .i64 5)))]
def Ahs:List TOp:=[oo 28 (.bin false .eql (.tmp 8) (.cst (.str [42]))),oo 27 (.mov (.tmp 28))]
def Aht:List TOp:=[oo 2 (.mov (.cst (.int .i64 5))),oo 3 (.mov (.cst (.int .i64 6)))]
def Ahu:List TOp:=[oo 30 (.bin false .eql (.tmp 8) (.cst (.str [47]))),oo 29 (.mov (.tmp 30))]
def Ahv:List TOp:=[oo 2 (.mov (.cst (.int .i64 6))),oo 3 (.mov (.cst (.int .i64 6)))]
def Ahw:List TOp:=[oo 2 (.mov (.cst (.int .i64 0))),oo 3 (.mov (.cst (.int .i64 0)))]
def Arl:TFd:=⟨1,[(.tmp 2,.bool),(.tmp 3,.bool)],[],(.seq (.ops Alm) (.seq (.seq (.ops Aln) (.cond (.tmp 6) (.free (.seq (.ops Alo) (.keep A7 .ret))) .skip)) (.seq (.seq (.ops Alp) (.pass 0 (.seq (.ops Alq) (.cond (.tmp 9) (.free (.seq (.ops Alr) (.keep A7 .ret))) (.seq (.ops Als) (.cond (.tmp 11) (.free (.seq (.ops Alt) (.keep A7 .ret))) (.seq (.ops Alu) (.cond (.tmp 13) (.free (.seq (.ops Ahf) (.keep A7 .ret))) (.seq (.ops Ahg) (.cond (.tmp 15) (.free (.seq (.ops Ahh) (.keep A7 .ret))) (.seq (.ops Ahi) (.cond (.tmp 17) (.free (.seq (.ops Ahj) (.keep A7 .ret))) (.seq (.ops Ahk) (.cond (.tmp 19) (.free (.seq (.ops Ahl) (.keep A7 .ret))) (.seq (.ops Ahm) (.cond (.tmp 21) (.free (.seq (.ops Ahn) (.keep A7 .ret))) (.seq (.ops Aho) (.cond (.tmp 23) (.free (.seq (.ops Ahp) (.keep A7 .ret))) (.seq (.ops Ahq) (.cond (.tmp 25) (.free (.seq (.ops Ahr) (.keep A7 .ret))) (.seq (.ops Ahs) (.cond (.tmp 27) (.free (.seq (.ops Aht) (.keep A7 .ret))) (.seq (.ops Ahu) (.cond (.tmp 29) (.free (.seq (.ops Ahv) (.keep A7 .ret))) .skip)))))))))))))))))))))))) (.seq (.ops Ahw) (.keep A7 .ret)))))⟩
def Oj:Ent:=⟨[.ty (.st 2)],[],[(.st 2)],⟨(.tup [(.ty (.int .i64)),(.ty (.int .i64))]),[],[],[(.int .i64),(.int .i64)],[],[]⟩,none,fun p=>Ek p⟩
theorem Ai7:Oj.ok Tryz.prog 59:=Au hm Tryz.func59 (fd:=Arl) (by kernel_rfl) (Ak (l:=[]) (y:=[]) trivial trivial) (by kernel_rfl) (fun p=>by kernel_rfl)
def Ak7:List TOp:=[oo 8 (.mov .nils)]
def Ak8:List TOp:=[oo 10 (.mov (.tmp 0)),ot 11 (.st 4) (.build [.pv (.int .i64 0),.pv (.str [])] [(0,1,(.tmp 10))]),ot 12 (.st 4) (.lit true 2 [(.tmp 11)]),oo 13 (.mov (.tmp 1)),ot 14 (.st 4) (.append 12 2 24 (.tmp 12) (.tmp 13)),oo 9 (.mov (.tmp 14))]
def Ak9:List TOp:=[oo 15 (.mov (.tmp 9)),oo 16 (.mov (.tmp 2)),ot 17 (.st 4) (.append 9 2 24 (.tmp 15) (.tmp 16)),oo 9 (.mov (.tmp 17))]
def Ala:List TOp:=[oo 18 (.mov (.tmp 9)),oo 19 (.mov (.tmp 3)),ot 20 (.st 4) (.append 9 2 24 (.tmp 18) (.tmp 19)),oo 9 (.mov (.tmp 20))]
def Alb:List TOp:=[oo 21 (.mov (.tmp 9)),oo 8 (.mov (.tmp 21))]
def Ak6:Kp:=⟨[.loc 9 0],[(8,true)],[],[],[]⟩
def Arj:TFd:=⟨4,[(.tmp 8,.bool)],[],(.seq (.ops Ak7) (.seq (.ops Ak8) (.seq (.ops Ak9) (.seq (.ops Ala) (.seq (.ops Alb) (.keep Ak6 .ret))))))⟩
def E8:Ent:=⟨[.ty (.int .i64),.ty (.sl (.st 4)),.ty (.sl (.st 4)),.ty (.sl (.st 4))],[],[(.int .i64),(.sl (.st 4)),(.sl (.st 4)),(.sl (.st 4))],⟨(.ty (.sl (.st 4))),[],[],[(.sl (.st 4))],[],[]⟩,none,fun p=>Bs p.1 p.2.1 p.2.2.1 p.2.2.2⟩
theorem Hc:E8.ok Tryz.prog 60:=Au hm Tryz.func60 (fd:=Arj) (by kernel_rfl) (Ak (l:=[]) (y:=[]) trivial trivial) (by kernel_rfl) (fun p=>by kernel_rfl)
def Agp:List TOp:=[oo 6 (.mov .nils),oo 7 (.mov (.cst (.int .i64 0))),oo 8 (.mov (.cst (.bool false)))]
def Agq:List TOp:=[oo 19 (.mov (.tmp 0)),oo 20 (.mov (.tmp 1)),oo 21 (.mov (.tmp 2)),oo 22 (.call 0 0 (.cst (.fn 58)) [(.tmp 19),(.tmp 20),(.tmp 21)] [] []),oo 18 (.mov (.tmp 22)),oo 23 (.ext 0 (.tmp 18)),oo 24 (.ext 1 (.tmp 18)),oo 25 (.ext 2 (.tmp 18)),oo 9 (.mov (.tmp 23)),oo 10 (.mov (.tmp 24)),oo 11 (.mov (.tmp 25))]
def Agr:List TOp:=[oo 26 (.mov (.tmp 11)),oo 27 (.bin false .lss (.tmp 26) (.cst (.int .i64 0)))]
def Ags:List TOp:=[oo 28 (.mov (.tmp 10)),oo 6 (.mov .nils),oo 7 (.mov (.tmp 28)),oo 8 (.mov (.cst (.bool false)))]
def D9:Kp:=⟨[],[(6,true),(7,false),(8,false)],[],[],[]⟩
def Agt:List TOp:=[oo 29 (.mov (.tmp 10)),oo 30 (.mov (.tmp 0)),oo 31 (.len false (.tmp 30)),oo 32 (.bin false .lss (.tmp 29) (.tmp 31))]
def Agu:List TOp:=[oo 34 (.mov (.tmp 0)),oo 35 (.mov (.tmp 10)),oo 36 (.idx 4 (.tmp 34) (.tmp 35)),ot 37 (.st 2) (.load true 4 (.tmp 36)),oo 38 (.call 0 0 (.cst (.fn 59)) [(.tmp 37)] [] []),oo 33 (.mov (.tmp 38)),oo 39 (.ext 0 (.tmp 33)),oo 40 (.ext 1 (.tmp 33)),oo 12 (.mov (.tmp 39)),oo 13 (.mov (.tmp 40))]
def Agv:List TOp:=[oo 41 (.mov (.tmp 13)),oo 14 (.mov (.tmp 41))]
def Agw:List TOp:=[oo 42 (.mov (.tmp 13)),oo 43 (.bin false .eql (.tmp 42) (.cst (.int .i64 4)))]
def Agx:List TOp:=[oo 14 (.mov (.cst (.int .i64 5)))]
def Abq:Kp:=⟨[],[(0,false),(2,false),(9,false),(10,false),(11,false),(12,false),(13,false),(14,false)],[],[],[]⟩
def Ab3:Sig:=⟨[(0,none),(2,none),(9,none),(10,none),(11,none),(12,none),(13,none),(14,some (.ty (.int .i64)))],[],[(.int .i64)],[],[]⟩
def Abu:List TOp:=[oo 44 (.mov (.tmp 13)),oo 45 (.bin false .eql (.tmp 44) (.cst (.int .i64 0))),oo 46 (.mov (.tmp 45)),og 47 46 false .bool (.mov (.tmp 13)),og 48 46 false .bool (.mov (.tmp 2)),og 49 46 false .bool (.bin false .lss (.tmp 47) (.tmp 48)),oo 50 (.pick (.tmp 46) (.cst (.bool true)) (.tmp 49)),oo 51 (.mov (.tmp 50)),og 52 51 false .bool (.mov (.tmp 11)),og 53 51 false .bool (.mov (.tmp 14)),og 54 51 false .bool (.bin false .lss (.tmp 52) (.tmp 53)),oo 55 (.pick (.tmp 51) (.cst (.bool true)) (.tmp 54))]
def Abv:List TOp:=[oo 56 (.mov (.tmp 9)),oo 57 (.mov (.tmp 10)),oo 6 (.mov (.tmp 56)),oo 7 (.mov (.tmp 57)),oo 8 (.mov (.cst (.bool true)))]
def Abw:List TOp:=[oo 59 (.mov (.tmp 0)),oo 60 (.mov (.tmp 10)),oo 61 (.bin false .add (.tmp 60) (.cst (.int .i64 1))),oo 62 (.mov (.tmp 13)),oo 63 (.bin false .add (.tmp 62) (.cst (.int .i64 1))),oo 64 (.call 0 0 (.cst (.fn 33)) [(.tmp 59),(.tmp 61),(.tmp 63)] [] []),oo 58 (.mov (.tmp 64)),oo 65 (.ext 0 (.tmp 58)),oo 66 (.ext 1 (.tmp 58)),oo 67 (.ext 2 (.tmp 58)),oo 15 (.mov (.tmp 65)),oo 16 (.mov (.tmp 66)),oo 17 (.mov (.tmp 67))]
def Abx:List TOp:=[oo 68 (.mov (.tmp 17)),oo 69 (.un .not (.tmp 68))]
def Aby:List TOp:=[oo 70 (.mov (.tmp 16)),oo 6 (.mov .nils),oo 7 (.mov (.tmp 70)),oo 8 (.mov (.cst (.bool false)))]
def Abz:List TOp:=[oo 71 (.mov (.tmp 12)),oo 72 (.mov (.tmp 9)),oo 73 (.mov (.tmp 15)),oo 74 (.call 0 0 (.cst (.fn 60)) [(.tmp 71),(.tmp 72),(.tmp 73),.nils] [] []),oo 9 (.mov (.tmp 74))]
def Ab0:List TOp:=[oo 75 (.mov (.tmp 16)),oo 10 (.mov (.tmp 75))]
def Ab1:List TOp:=[oo 76 (.mov (.tmp 13)),oo 11 (.mov (.tmp 76))]
def Abt:DC:=(.seq (.seq (.ops Agt) (.cond (.tmp 32) .skip (.exit 0))) (.pass 1 (.seq (.ops Agu) (.seq (.ops Agv) (.seq (.seq (.ops Agw) (.join Abq Ab3 (.cond (.tmp 43) (.ops Agx) .skip))) (.seq (.seq (.ops Abu) (.cond (.tmp 55) (.free (.seq (.ops Abv) (.keep D9 .ret))) .skip)) (.seq (.ops Abw) (.seq (.seq (.ops Abx) (.cond (.tmp 69) (.free (.seq (.ops Aby) (.keep D9 .ret))) .skip)) (.seq (.ops Abz) (.seq (.ops Ab0) (.ops Ab1)))))))))))
def Abr:Kp:=⟨[],[(0,false),(2,false),(9,false),(10,false),(11,false)],[],[],[]⟩
def Ab4:Sig:=⟨[(0,none),(2,none),(9,some (.ty (.sl (.st 4)))),(10,some (.ty (.int .i64))),(11,some (.ty (.int .i64)))],[],[(.sl (.st 4)),(.int .i64),(.int .i64)],[],[]⟩
def Abs:Kp:=⟨[],[(9,false),(10,false)],[],[],[]⟩
def Ab5:Sig:=⟨[(9,some (.ty (.sl (.st 4)))),(10,some (.ty (.int .i64)))],[],[(.sl (.st 4)),(.int .i64)],[],[]⟩
def Ab2:List TOp:=[oo 77 (.mov (.tmp 9)),oo 78 (.mov (.tmp 10)),oo 6 (.mov (.tmp 77)),oo 7 (.mov (.tmp 78)),oo 8 (.mov (.cst (.bool true)))]
def Ao3:TFd:=⟨3,[(.tmp 6,.bool),(.tmp 7,.bool),(.tmp 8,.bool)],[],(.seq (.ops Agp) (.seq (.ops Agq) (.seq (.seq (.ops Agr) (.cond (.tmp 27) (.free (.seq (.ops Ags) (.keep D9 .ret))) .skip)) (.seq (.joinO Abs Ab5 (.block 0 (.loop [0,2,9,10,11] [] Abr Ab4 Abt))) (.seq (.ops Ab2) (.keep D9 .ret))))))⟩
noncomputable def Cp(fuel:Nat):Ent:=⟨[.ty (.sl (.st 2)),.ty (.int .i64),.ty (.int .i64)],[],[(.sl (.st 2)),(.int .i64),(.int .i64)],⟨(.tup [(.ty (.sl (.st 4))),(.ty (.int .i64)),(.ty .bool)]),[],[],[(.sl (.st 4)),(.int .i64),.bool],[],[]⟩,none,fun p=>cashbookref15_climb fuel p.1 p.2.1 p.2.2⟩
def Ag3:List TOp:=[oo 6 (.mov .nils),oo 7 (.mov (.cst (.int .i64 0))),oo 8 (.mov (.cst (.int .i64 0)))]
def Ag4:List TOp:=[oo 24 (.mov (.tmp 2)),oo 25 (.bin false .eql (.tmp 24) (.cst (.int .i64 0))),oo 26 (.mov (.tmp 25)),og 27 26 true .bool (.mov (.tmp 0)),og 28 26 true .bool (.mov (.tmp 1)),og 29 26 true .bool (.call 0 0 (.cst (.fn 94)) [(.tmp 27),(.tmp 28),(.cst (.str [105,102]))] [] []),oo 30 (.pick (.tmp 26) (.tmp 29) (.cst (.bool false)))]
def Ag5:List TOp:=[oo 32 (.mov (.tmp 0)),oo 33 (.mov (.tmp 1)),oo 34 (.bin false .add (.tmp 33) (.cst (.int .i64 1))),oo 35 (.call 0 0 (.cst (.fn 33)) [(.tmp 32),(.tmp 34),(.cst (.int .i64 0))] [] []),oo 31 (.mov (.tmp 35)),oo 36 (.ext 0 (.tmp 31)),oo 37 (.ext 1 (.tmp 31)),oo 38 (.ext 2 (.tmp 31)),oo 9 (.mov (.tmp 36)),oo 10 (.mov (.tmp 37)),oo 11 (.mov (.tmp 38))]
def Ag6:List TOp:=[oo 39 (.mov (.tmp 11)),oo 40 (.un .not (.tmp 39)),oo 41 (.mov (.tmp 40)),og 42 41 false .bool (.mov (.tmp 0)),og 43 41 false .bool (.mov (.tmp 10)),og 44 41 false .bool (.call 0 0 (.cst (.fn 94)) [(.tmp 42),(.tmp 43),(.cst (.str [116,104,101,110]))] [] []),og 45 41 false .bool (.un .not (.tmp 44)),oo 46 (.pick (.tmp 41) (.cst (.bool true)) (.tmp 45))]
def Ag7:List TOp:=[oo 47 (.mov (.tmp 10)),oo 6 (.mov .nils),oo 7 (.mov (.tmp 47)),oo 8 (.mov (.cst (.int .i64 (-1))))]
def Bl:Kp:=⟨[],[(6,true),(7,false),(8,false)],[],[],[]⟩
def Ag8:List TOp:=[oo 49 (.mov (.tmp 0)),oo 50 (.mov (.tmp 10)),oo 51 (.bin false .add (.tmp 50) (.cst (.int .i64 1))),oo 52 (.call 0 0 (.cst (.fn 33)) [(.tmp 49),(.tmp 51),(.cst (.int .i64 0))] [] []),oo 48 (.mov (.tmp 52)),oo 53 (.ext 0 (.tmp 48)),oo 54 (.ext 1 (.tmp 48)),oo 55 (.ext 2 (.tmp 48)),oo 12 (.mov (.tmp 53)),oo 13 (.mov (.tmp 54)),oo 14 (.mov (.tmp 55))]
def Ag9:List TOp:=[oo 56 (.mov (.tmp 14)),oo 57 (.un .not (.tmp 56)),oo 58 (.mov (.tmp 57)),og 59 58 false .bool (.mov (.tmp 0)),og 60 58 false .bool (.mov (.tmp 13)),og 61 58 false .bool (.call 0 0 (.cst (.fn 94)) [(.tmp 59),(.tmp 60),(.cst (.str [101,108,115,101]))] [] []),og 62 58 false .bool (.un .not (.tmp 61)),oo 63 (.pick (.tmp 58) (.cst (.bool true)) (.tmp 62))]
def Aha:List TOp:=[oo 64 (.mov (.tmp 13)),oo 6 (.mov .nils),oo 7 (.mov (.tmp 64)),oo 8 (.mov (.cst (.int .i64 (-1))))]
def Ahb:List TOp:=[oo 66 (.mov (.tmp 0)),oo 67 (.mov (.tmp 13)),oo 68 (.bin false .add (.tmp 67) (.cst (.int .i64 1))),oo 69 (.call 0 0 (.cst (.fn 33)) [(.tmp 66),(.tmp 68),(.cst (.int .i64 0))] [] []),oo 65 (.mov (.tmp 69)),oo 70 (.ext 0 (.tmp 65)),oo 71 (.ext 1 (.tmp 65)),oo 72 (.ext 2 (.tmp 65)),oo 15 (.mov (.tmp 70)),oo 16 (.mov (.tmp 71)),oo 17 (.mov (.tmp 72))]
def Ab6:List TOp:=[oo 73 (.mov (.tmp 17)),oo 74 (.un .not (.tmp 73))]
def Ab7:List TOp:=[oo 75 (.mov (.tmp 16)),oo 6 (.mov .nils),oo 7 (.mov (.tmp 75)),oo 8 (.mov (.cst (.int .i64 (-1))))]
def Ab8:List TOp:=[oo 76 (.mov (.tmp 9)),oo 77 (.mov (.tmp 12)),oo 78 (.mov (.tmp 15)),oo 79 (.call 0 0 (.cst (.fn 60)) [(.cst (.int .i64 15)),(.tmp 76),(.tmp 77),(.tmp 78)] [] []),oo 80 (.mov (.tmp 16)),oo 6 (.mov (.tmp 79)),oo 7 (.mov (.tmp 80)),oo 8 (.mov (.cst (.int .i64 0)))]
def Ab9:List TOp:=[oo 81 (.mov (.tmp 2)),oo 82 (.bin false .leq (.tmp 81) (.cst (.int .i64 3))),oo 83 (.mov (.tmp 82)),og 84 83 true .bool (.mov (.tmp 0)),og 85 83 true .bool (.mov (.tmp 1)),og 86 83 true .bool (.call 0 0 (.cst (.fn 94)) [(.tmp 84),(.tmp 85),(.cst (.str [110,111,116]))] [] []),oo 87 (.pick (.tmp 83) (.tmp 86) (.cst (.bool false)))]
def Aca:List TOp:=[oo 89 (.mov (.tmp 0)),oo 90 (.mov (.tmp 1)),oo 91 (.bin false .add (.tmp 90) (.cst (.int .i64 1))),oo 92 (.call 0 0 (.cst (.fn 33)) [(.tmp 89),(.tmp 91),(.cst (.int .i64 3))] [] []),oo 88 (.mov (.tmp 92)),oo 93 (.ext 0 (.tmp 88)),oo 94 (.ext 1 (.tmp 88)),oo 95 (.ext 2 (.tmp 88)),oo 18 (.mov (.tmp 93)),oo 19 (.mov (.tmp 94)),oo 20 (.mov (.tmp 95))]
def Acb:List TOp:=[oo 96 (.mov (.tmp 20)),oo 97 (.un .not (.tmp 96))]
def Acc:List TOp:=[oo 98 (.mov (.tmp 19)),oo 6 (.mov .nils),oo 7 (.mov (.tmp 98)),oo 8 (.mov (.cst (.int .i64 (-1))))]
def Acd:List TOp:=[oo 99 (.mov (.tmp 18)),oo 100 (.call 0 0 (.cst (.fn 60)) [(.cst (.int .i64 14)),(.tmp 99),.nils,.nils] [] []),oo 101 (.mov (.tmp 19)),oo 6 (.mov (.tmp 100)),oo 7 (.mov (.tmp 101)),oo 8 (.mov (.cst (.int .i64 3)))]
def Ace:List TOp:=[oo 102 (.mov (.tmp 0)),oo 103 (.mov (.tmp 1)),oo 104 (.call 0 0 (.cst (.fn 94)) [(.tmp 102),(.tmp 103),(.cst (.str [45]))] [] [])]
def Acf:List TOp:=[oo 106 (.mov (.tmp 0)),oo 107 (.mov (.tmp 1)),oo 108 (.bin false .add (.tmp 107) (.cst (.int .i64 1))),oo 109 (.call 0 0 (.cst (.fn 33)) [(.tmp 106),(.tmp 108),(.cst (.int .i64 7))] [] []),oo 105 (.mov (.tmp 109)),oo 110 (.ext 0 (.tmp 105)),oo 111 (.ext 1 (.tmp 105)),oo 112 (.ext 2 (.tmp 105)),oo 21 (.mov (.tmp 110)),oo 22 (.mov (.tmp 111)),oo 23 (.mov (.tmp 112))]
def Acg:List TOp:=[oo 113 (.mov (.tmp 23)),oo 114 (.un .not (.tmp 113))]
def Ach:List TOp:=[oo 115 (.mov (.tmp 22)),oo 6 (.mov .nils),oo 7 (.mov (.tmp 115)),oo 8 (.mov (.cst (.int .i64 (-1))))]
def Aci:List TOp:=[oo 116 (.mov (.tmp 21)),oo 117 (.call 0 0 (.cst (.fn 60)) [(.cst (.int .i64 2)),(.tmp 116),.nils,.nils] [] []),oo 118 (.mov (.tmp 22)),oo 6 (.mov (.tmp 117)),oo 7 (.mov (.tmp 118)),oo 8 (.mov (.cst (.int .i64 7)))]
def Acj:List TOp:=[oo 119 (.mov (.tmp 0)),oo 120 (.mov (.tmp 1)),oo 121 (.call 0 0 (.cst (.fn 95)) [(.tmp 119),(.tmp 120)] [] []),oo 122 (.ext 0 (.tmp 121)),oo 123 (.ext 1 (.tmp 121)),oo 124 (.ext 2 (.tmp 121)),oo 6 (.mov (.tmp 122)),oo 7 (.mov (.tmp 123)),oo 8 (.mov (.tmp 124))]
def Ao5:TFd:=⟨3,[(.tmp 6,.bool),(.tmp 7,.bool),(.tmp 8,.bool)],[],(.seq (.ops Ag3) (.seq (.seq (.ops Ag4) (.cond (.tmp 30) (.free (.seq (.ops Ag5) (.seq (.seq (.ops Ag6) (.cond (.tmp 46) (.free (.seq (.ops Ag7) (.keep Bl .ret))) .skip)) (.seq (.ops Ag8) (.seq (.seq (.ops Ag9) (.cond (.tmp 63) (.free (.seq (.ops Aha) (.keep Bl .ret))) .skip)) (.seq (.ops Ahb) (.seq (.seq (.ops Ab6) (.cond (.tmp 74) (.free (.seq (.ops Ab7) (.keep Bl .ret))) .skip)) (.seq (.ops Ab8) (.keep Bl .ret))))))))) .skip)) (.seq (.seq (.ops Ab9) (.cond (.tmp 87) (.free (.seq (.ops Aca) (.seq (.seq (.ops Acb) (.cond (.tmp 97) (.free (.seq (.ops Acc) (.keep Bl .ret))) .skip)) (.seq (.ops Acd) (.keep Bl .ret))))) .skip)) (.seq (.seq (.ops Ace) (.cond (.tmp 104) (.free (.seq (.ops Acf) (.seq (.seq (.ops Acg) (.cond (.tmp 114) (.free (.seq (.ops Ach) (.keep Bl .ret))) .skip)) (.seq (.ops Aci) (.keep Bl .ret))))) .skip)) (.seq (.ops Acj) (.keep Bl .ret))))))⟩
noncomputable def Lz(fuel:Nat):Ent:=⟨[.ty (.sl (.st 2)),.ty (.int .i64),.ty (.int .i64)],[],[(.sl (.st 2)),(.int .i64),(.int .i64)],⟨(.tup [(.ty (.sl (.st 4))),(.ty (.int .i64)),(.ty (.int .i64))]),[],[],[(.sl (.st 4)),(.int .i64),(.int .i64)],[],[]⟩,none,fun p=>cashbookref15_first fuel p.1 p.2.1 p.2.2⟩
def Xa:List TOp:=[oo 4 (.mov .nils),oo 5 (.mov (.cst (.int .i64 0))),oo 6 (.mov (.cst (.int .i64 0)))]
def Xb:List TOp:=[oo 18 (.mov (.tmp 1)),oo 19 (.mov (.tmp 0)),oo 20 (.len false (.tmp 19)),oo 21 (.bin false .geq (.tmp 18) (.tmp 20))]
def Xc:List TOp:=[oo 22 (.mov (.tmp 1)),oo 4 (.mov .nils),oo 5 (.mov (.tmp 22)),oo 6 (.mov (.cst (.int .i64 (-1))))]
def A8:Kp:=⟨[],[(4,true),(5,false),(6,false)],[],[],[]⟩
def Xd:List TOp:=[oo 23 (.mov (.tmp 0)),oo 24 (.mov (.tmp 1)),oo 25 (.idx 4 (.tmp 23) (.tmp 24)),ot 26 (.st 2) (.load true 4 (.tmp 25)),oo 7 (.alloc [.pv (.int .i64 0),.pv (.int .i64 0),.pv (.int .i64 0),.pv (.str [])]),on (.store 4 (.tmp 7) (.tmp 26))]
def Xe:List TOp:=[oo 27 (.mov (.tmp 0)),oo 28 (.mov (.tmp 1)),oo 29 (.call 0 0 (.cst (.fn 94)) [(.tmp 27),(.tmp 28),(.cst (.str [40]))] [] [])]
def Xf:List TOp:=[oo 31 (.mov (.tmp 0)),oo 32 (.mov (.tmp 1)),oo 33 (.bin false .add (.tmp 32) (.cst (.int .i64 1))),oo 34 (.call 0 0 (.cst (.fn 33)) [(.tmp 31),(.tmp 33),(.cst (.int .i64 0))] [] []),oo 30 (.mov (.tmp 34)),oo 35 (.ext 0 (.tmp 30)),oo 36 (.ext 1 (.tmp 30)),oo 37 (.ext 2 (.tmp 30)),oo 8 (.mov (.tmp 35)),oo 9 (.mov (.tmp 36)),oo 10 (.mov (.tmp 37))]
def Xg:List TOp:=[oo 38 (.mov (.tmp 10)),oo 39 (.un .not (.tmp 38)),oo 40 (.mov (.tmp 39)),og 41 40 false .bool (.mov (.tmp 0)),og 42 40 false .bool (.mov (.tmp 9)),og 43 40 false .bool (.call 0 0 (.cst (.fn 94)) [(.tmp 41),(.tmp 42),(.cst (.str [41]))] [] []),og 44 40 false .bool (.un .not (.tmp 43)),oo 45 (.pick (.tmp 40) (.cst (.bool true)) (.tmp 44))]
def Xh:List TOp:=[oo 46 (.mov (.tmp 9)),oo 4 (.mov .nils),oo 5 (.mov (.tmp 46)),oo 6 (.mov (.cst (.int .i64 (-1))))]
def Xi:List TOp:=[oo 47 (.mov (.tmp 8)),oo 48 (.mov (.tmp 9)),oo 49 (.bin false .add (.tmp 48) (.cst (.int .i64 1))),oo 4 (.mov (.tmp 47)),oo 5 (.mov (.tmp 49)),oo 6 (.mov (.cst (.int .i64 8)))]
def Un:List TOp:=[oo 50 (.mov (.tmp 0)),oo 51 (.mov (.tmp 1)),oo 52 (.call 0 0 (.cst (.fn 94)) [(.tmp 50),(.tmp 51),(.cst (.str [109,105,110]))] [] []),oo 53 (.mov (.tmp 52)),og 54 53 false .bool (.mov (.tmp 0)),og 55 53 false .bool (.mov (.tmp 1)),og 56 53 false .bool (.call 0 0 (.cst (.fn 94)) [(.tmp 54),(.tmp 55),(.cst (.str [109,97,120]))] [] []),oo 57 (.pick (.tmp 53) (.cst (.bool true)) (.tmp 56))]
def Uo:List TOp:=[oo 58 (.mov (.tmp 0)),oo 59 (.mov (.tmp 1)),oo 60 (.bin false .add (.tmp 59) (.cst (.int .i64 1))),oo 61 (.call 0 0 (.cst (.fn 94)) [(.tmp 58),(.tmp 60),(.cst (.str [40]))] [] []),oo 62 (.un .not (.tmp 61))]
def Uq:List TOp:=[oo 63 (.mov (.tmp 1)),oo 64 (.bin false .add (.tmp 63) (.cst (.int .i64 1))),oo 4 (.mov .nils),oo 5 (.mov (.tmp 64)),oo 6 (.mov (.cst (.int .i64 (-1))))]
def Ur:List TOp:=[oo 66 (.mov (.tmp 0)),oo 67 (.mov (.tmp 1)),oo 68 (.bin false .add (.tmp 67) (.cst (.int .i64 2))),oo 69 (.call 0 0 (.cst (.fn 33)) [(.tmp 66),(.tmp 68),(.cst (.int .i64 0))] [] []),oo 65 (.mov (.tmp 69)),oo 70 (.ext 0 (.tmp 65)),oo 71 (.ext 1 (.tmp 65)),oo 72 (.ext 2 (.tmp 65)),oo 11 (.mov (.tmp 70)),oo 12 (.mov (.tmp 71)),oo 13 (.mov (.tmp 72))]
def Us:List TOp:=[oo 73 (.mov (.tmp 13)),oo 74 (.un .not (.tmp 73)),oo 75 (.mov (.tmp 74)),og 76 75 false .bool (.mov (.tmp 0)),og 77 75 false .bool (.mov (.tmp 12)),og 78 75 false .bool (.call 0 0 (.cst (.fn 94)) [(.tmp 76),(.tmp 77),(.cst (.str [44]))] [] []),og 79 75 false .bool (.un .not (.tmp 78)),oo 80 (.pick (.tmp 75) (.cst (.bool true)) (.tmp 79))]
def Ut:List TOp:=[oo 81 (.mov (.tmp 12)),oo 4 (.mov .nils),oo 5 (.mov (.tmp 81)),oo 6 (.mov (.cst (.int .i64 (-1))))]
def Uu:List TOp:=[oo 83 (.mov (.tmp 0)),oo 84 (.mov (.tmp 12)),oo 85 (.bin false .add (.tmp 84) (.cst (.int .i64 1))),oo 86 (.call 0 0 (.cst (.fn 33)) [(.tmp 83),(.tmp 85),(.cst (.int .i64 0))] [] []),oo 82 (.mov (.tmp 86)),oo 87 (.ext 0 (.tmp 82)),oo 88 (.ext 1 (.tmp 82)),oo 89 (.ext 2 (.tmp 82)),oo 14 (.mov (.tmp 87)),oo 15 (.mov (.tmp 88)),oo 16 (.mov (.tmp 89))]
def Uv:List TOp:=[oo 90 (.mov (.tmp 16)),oo 91 (.un .not (.tmp 90)),oo 92 (.mov (.tmp 91)),og 93 92 false .bool (.mov (.tmp 0)),og 94 92 false .bool (.mov (.tmp 15)),og 95 92 false .bool (.call 0 0 (.cst (.fn 94)) [(.tmp 93),(.tmp 94),(.cst (.str [41]))] [] []),og 96 92 false .bool (.un .not (.tmp 95)),oo 97 (.pick (.tmp 92) (.cst (.bool true)) (.tmp 96))]
def Uw:List TOp:=[oo 98 (.mov (.tmp 15)),oo 4 (.mov .nils),oo 5 (.mov (.tmp 98)),oo 6 (.mov (.cst (.int .i64 (-1))))]
def Ux:List TOp:=[oo 99 (.fld 3 (.tmp 7)),oo 100 (.load false 1 (.tmp 99)),oo 101 (.bin false .eql (.tmp 100) (.cst (.str [109,105,110])))]
def Uy:List TOp:=[oo 102 (.mov (.tmp 11)),oo 103 (.mov (.tmp 14)),oo 104 (.call 0 0 (.cst (.fn 60)) [(.cst (.int .i64 16)),(.tmp 102),(.tmp 103),.nils] [] []),oo 105 (.mov (.tmp 15)),oo 106 (.bin false .add (.tmp 105) (.cst (.int .i64 1))),oo 4 (.mov (.tmp 104)),oo 5 (.mov (.tmp 106)),oo 6 (.mov (.cst (.int .i64 8)))]
def Uz:List TOp:=[oo 107 (.mov (.tmp 11)),oo 108 (.mov (.tmp 14)),oo 109 (.call 0 0 (.cst (.fn 60)) [(.cst (.int .i64 17)),(.tmp 107),(.tmp 108),.nils] [] []),oo 110 (.mov (.tmp 15)),oo 111 (.bin false .add (.tmp 110) (.cst (.int .i64 1))),oo 4 (.mov (.tmp 109)),oo 5 (.mov (.tmp 111)),oo 6 (.mov (.cst (.int .i64 8)))]
def U0:List TOp:=[oo 112 (.fld 0 (.tmp 7)),oo 113 (.load false 1 (.tmp 112)),oo 114 (.bin false .eql (.tmp 113) (.cst (.int .i64 1))),oo 115 (.mov (.tmp 114)),og 116 115 true .bool (.mov (.tmp 0)),og 117 115 true .bool (.mov (.tmp 1)),og 118 115 true .bool (.bin false .add (.tmp 117) (.cst (.int .i64 1))),og 119 115 true .bool (.call 0 0 (.cst (.fn 94)) [(.tmp 116),(.tmp 118),(.cst (.str [37]))] [] []),oo 120 (.pick (.tmp 115) (.tmp 119) (.cst (.bool false)))]
def U1:List TOp:=[oo 121 (.fld 3 (.tmp 7)),oo 122 (.load false 1 (.tmp 121)),oo 123 (.bin false .add (.tmp 122) (.cst (.str [37]))),ot 124 (.st 4) (.build [.pv (.int .i64 0),.pv (.str [])] [(1,1,(.tmp 123))]),ot 125 (.st 4) (.lit false 2 [(.tmp 124)]),oo 126 (.mov (.tmp 1)),oo 127 (.bin false .add (.tmp 126) (.cst (.int .i64 2))),oo 4 (.mov (.tmp 125)),oo 5 (.mov (.tmp 127)),oo 6 (.mov (.cst (.int .i64 8)))]
def U2:List TOp:=[oo 128 (.fld 3 (.tmp 7)),oo 129 (.load false 1 (.tmp 128)),oo 130 (.call 0 0 (.cst (.fn 97)) [(.tmp 129),(.cst (.bool false))] [] []),oo 17 (.mov (.tmp 130))]
def U3:List TOp:=[oo 131 (.fld 0 (.tmp 7)),oo 132 (.load false 1 (.tmp 131)),oo 133 (.bin false .eql (.tmp 132) (.cst (.int .i64 1))),oo 134 (.mov (.tmp 133)),og 135 134 false .bool (.fld 0 (.tmp 7)),og 136 134 false .bool (.load false 1 (.tmp 135)),og 137 134 false .bool (.bin false .eql (.tmp 136) (.cst (.int .i64 0))),og 138 134 false .bool (.mov (.tmp 137)),og 139 138 true .bool (.mov (.tmp 17)),og 140 138 true .bool (.un .not (.tmp 139)),og 141 134 false .bool (.pick (.tmp 138) (.tmp 140) (.cst (.bool false))),oo 142 (.pick (.tmp 134) (.cst (.bool true)) (.tmp 141))]
def U4:List TOp:=[oo 143 (.fld 0 (.tmp 7)),oo 144 (.load false 1 (.tmp 143)),oo 145 (.bin false .sub (.cst (.int .i64 1)) (.tmp 144)),oo 146 (.fld 3 (.tmp 7)),oo 147 (.load false 1 (.tmp 146)),ot 148 (.st 4) (.build [.pv (.int .i64 0),.pv (.str [])] [(0,1,(.tmp 145)),(1,1,(.tmp 147))]),ot 149 (.st 4) (.lit false 2 [(.tmp 148)]),oo 150 (.mov (.tmp 1)),oo 151 (.bin false .add (.tmp 150) (.cst (.int .i64 1))),oo 4 (.mov (.tmp 149)),oo 5 (.mov (.tmp 151)),oo 6 (.mov (.cst (.int .i64 8)))]
def U5:List TOp:=[oo 152 (.mov (.tmp 1)),oo 4 (.mov .nils),oo 5 (.mov (.tmp 152)),oo 6 (.mov (.cst (.int .i64 (-1))))]
def Ahe:TFd:=⟨2,[(.tmp 4,.bool),(.tmp 5,.bool),(.tmp 6,.bool)],[],(.seq (.ops Xa) (.seq (.seq (.ops Xb) (.cond (.tmp 21) (.free (.seq (.ops Xc) (.keep A8 .ret))) .skip)) (.seq (.ops Xd) (.seq (.seq (.ops Xe) (.cond (.tmp 29) (.free (.seq (.ops Xf) (.seq (.seq (.ops Xg) (.cond (.tmp 45) (.free (.seq (.ops Xh) (.keep A8 .ret))) .skip)) (.seq (.ops Xi) (.keep A8 .ret))))) .skip)) (.seq (.seq (.ops Un) (.cond (.tmp 57) (.free (.seq (.seq (.ops Uo) (.cond (.tmp 62) (.free (.seq (.ops Uq) (.keep A8 .ret))) .skip)) (.seq (.ops Ur) (.seq (.seq (.ops Us) (.cond (.tmp 80) (.free (.seq (.ops Ut) (.keep A8 .ret))) .skip)) (.seq (.ops Uu) (.seq (.seq (.ops Uv) (.cond (.tmp 97) (.free (.seq (.ops Uw) (.keep A8 .ret))) .skip)) (.seq (.seq (.ops Ux) (.cond (.tmp 101) (.free (.seq (.ops Uy) (.keep A8 .ret))) .skip)) (.seq (.ops Uz) (.keep A8 .ret))))))))) .skip)) (.seq (.seq (.ops U0) (.cond (.tmp 120) (.free (.seq (.ops U1) (.keep A8 .ret))) .skip)) (.seq (.ops U2) (.seq (.seq (.ops U3) (.cond (.tmp 142) (.free (.seq (.ops U4) (.keep A8 .ret))) .skip)) (.seq (.ops U5) (.keep A8 .ret))))))))))⟩
noncomputable def Je(fuel:Nat):Ent:=⟨[.ty (.sl (.st 2)),.ty (.int .i64)],[],[(.sl (.st 2)),(.int .i64)],⟨(.tup [(.ty (.sl (.st 4))),(.ty (.int .i64)),(.ty (.int .i64))]),[],[],[(.sl (.st 4)),(.int .i64),(.int .i64)],[],[]⟩,none,fun p=>cashbookref15_primary fuel p.1 p.2⟩
theorem Bo: ∀fuel:Nat,(Cp fuel).ok Tryz.prog 33∧(Lz fuel).ok Tryz.prog 58∧(Je fuel).ok Tryz.prog 95
 |0=>⟨(fun p r h=>(by have h:none=some r:=h;cases h)),(fun p r h=>(by have h:none=some r:=h;cases h)),(fun p r h=>(by have h:none=some r:=h;cases h))⟩
 |fuel+1=>⟨
  Au hm Tryz.func33 (fd:=Ao3) (by kernel_rfl) (Ak (l:=[(58,(Lz fuel)),(59,Oj),(33,(Cp fuel)),(60,E8)]) (y:=[]) ⟨(Bo fuel).2.1,Ai7,(Bo fuel).1,Hc,trivial⟩ trivial) (by kernel_rfl) (fun p=>by kernel_rfl),
  Au hm Tryz.func58 (fd:=Ao5) (by kernel_rfl) (Ak (l:=[(94,Ei),(33,(Cp fuel)),(60,E8),(95,(Je fuel))]) (y:=[]) ⟨Fz,(Bo fuel).1,Hc,(Bo fuel).2.2,trivial⟩ trivial) (by kernel_rfl) (fun p=>by kernel_rfl),
  Au hm Tryz.func95 (fd:=Ahe) (by kernel_rfl) (Ak (l:=[(94,Ei),(33,(Cp fuel)),(60,E8),(97,Fx)]) (y:=[]) ⟨Fz,(Bo fuel).1,Hc,Hr,trivial⟩ trivial) (by kernel_rfl) (fun p=>by kernel_rfl)⟩
theorem Ad2(fuel:Nat):(Cp fuel).ok Tryz.prog 33:=(Bo fuel).1
def Agy:List TOp:=[oo 6 (.mov (.cst (.int .i64 0))),oo 7 (.mov (.cst (.int .i64 0))),oo 8 (.mov (.cst (.int .i64 0)))]
def Agz:List TOp:=[oo 11 (.mov (.tmp 2)),oo 12 (.mov (.tmp 1)),oo 13 (.len false (.tmp 12)),oo 14 (.bin false .lss (.tmp 11) (.tmp 13))]
def Ag0:List TOp:=[oo 15 (.mov (.tmp 1)),oo 16 (.mov (.tmp 2)),oo 17 (.idx 4 (.tmp 15) (.tmp 16)),oo 18 (.fld 1 (.tmp 17)),oo 19 (.load false 1 (.tmp 18)),oo 20 (.mov (.tmp 1)),oo 21 (.mov (.tmp 2)),oo 22 (.idx 4 (.tmp 20) (.tmp 21)),oo 23 (.fld 2 (.tmp 22)),oo 24 (.load false 1 (.tmp 23)),oo 6 (.mov (.tmp 19)),oo 7 (.mov (.tmp 24)),oo 8 (.mov (.cst (.int .i64 14)))]
def Kq:Kp:=⟨[],[(6,false),(7,false),(8,false)],[],[],[]⟩
def Ag1:List TOp:=[oo 26 (.mov (.tmp 0)),oo 27 (.mov (.tmp 0)),oo 28 (.len true (.tmp 27)),oo 29 (.call 0 0 (.cst (.fn 32)) [(.tmp 26),(.tmp 28)] [] []),oo 25 (.mov (.tmp 29)),oo 30 (.ext 0 (.tmp 25)),oo 31 (.ext 1 (.tmp 25)),oo 9 (.mov (.tmp 30)),oo 10 (.mov (.tmp 31))]
def Ag2:List TOp:=[oo 32 (.mov (.tmp 9)),oo 33 (.mov (.tmp 10)),oo 6 (.mov (.tmp 32)),oo 7 (.mov (.tmp 33)),oo 8 (.mov (.cst (.int .i64 14)))]
def Ao4:TFd:=⟨3,[(.tmp 6,.bool),(.tmp 7,.bool),(.tmp 8,.bool)],[],(.seq (.ops Agy) (.seq (.seq (.ops Agz) (.cond (.tmp 14) (.free (.seq (.draw [] Ag0) (.keep Kq .ret))) .skip)) (.seq (.ops Ag1) (.seq (.ops Ag2) (.keep Kq .ret)))))⟩
noncomputable def Ly:Ent:=⟨[.ty .str,.ty (.sl (.st 2)),.ty (.int .i64)],[],[.str,(.sl (.st 2)),(.int .i64)],⟨(.tup [(.ty (.int .i64)),(.ty (.int .i64)),(.ty (.int .i64))]),[],[],[(.int .i64),(.int .i64),(.int .i64)],[],[]⟩,none,fun p=>Fy p.1 p.2.1 p.2.2⟩
theorem Ad3:Ly.ok Tryz.prog 34:=Au hm Tryz.func34 (fd:=Ao4) (by kernel_rfl) (Ak (l:=[(32,Es)]) (y:=[]) ⟨Gr,trivial⟩ trivial) (by kernel_rfl) (fun p=>by kernel_rfl)
def Aol:List TOp:=[oo 2 (.mov (.cst (.int .i64 0)))]
def Aom:List TOp:=[oo 3 (.mov (.tmp 0)),oo 4 (.bin false .lss (.tmp 3) (.cst (.int .i64 0))),oo 5 (.mov (.tmp 4)),og 6 5 false .bool (.mov (.tmp 0)),og 7 5 false .bool (.bin false .gtr (.tmp 6) (.cst (.int .i64 17))),oo 8 (.pick (.tmp 5) (.cst (.bool true)) (.tmp 7))]
def Aon:List TOp:=[oo 2 (.mov (.cst (.int .i64 (-1))))]
def Dn:Kp:=⟨[],[(2,false)],[],[],[]⟩
def Aoo:List TOp:=[oo 9 (.mov (.tmp 0)),oo 10 (.bin false .lss (.tmp 9) (.cst (.int .i64 2)))]
def Aop:List TOp:=[oo 2 (.mov (.cst (.int .i64 0)))]
def Aoq:List TOp:=[oo 11 (.mov (.tmp 0)),oo 12 (.bin false .eql (.tmp 11) (.cst (.int .i64 2))),oo 13 (.mov (.tmp 12)),og 14 13 false .bool (.mov (.tmp 0)),og 15 13 false .bool (.bin false .eql (.tmp 14) (.cst (.int .i64 14))),oo 16 (.pick (.tmp 13) (.cst (.bool true)) (.tmp 15))]
def Aor:List TOp:=[oo 2 (.mov (.cst (.int .i64 1)))]
def Aos:List TOp:=[oo 17 (.mov (.tmp 0)),oo 18 (.bin false .eql (.tmp 17) (.cst (.int .i64 15)))]
def Aot:List TOp:=[oo 2 (.mov (.cst (.int .i64 3)))]
def Akw:List TOp:=[oo 2 (.mov (.cst (.int .i64 2)))]
def At5:TFd:=⟨1,[(.tmp 2,.bool)],[],(.seq (.ops Aol) (.seq (.seq (.ops Aom) (.cond (.tmp 8) (.free (.seq (.ops Aon) (.keep Dn .ret))) .skip)) (.seq (.seq (.ops Aoo) (.cond (.tmp 10) (.free (.seq (.ops Aop) (.keep Dn .ret))) .skip)) (.seq (.seq (.ops Aoq) (.cond (.tmp 16) (.free (.seq (.ops Aor) (.keep Dn .ret))) .skip)) (.seq (.seq (.ops Aos) (.cond (.tmp 18) (.free (.seq (.ops Aot) (.keep Dn .ret))) .skip)) (.seq (.ops Akw) (.keep Dn .ret)))))))⟩
def Qq:Ent:=⟨[.ty (.int .i64)],[],[(.int .i64)],⟨(.ty (.int .i64)),[],[],[(.int .i64)],[],[]⟩,none,fun p=>E7 p⟩
theorem Amr:Qq.ok Tryz.prog 39:=Au hm Tryz.func39 (fd:=At5) (by kernel_rfl) (Ak (l:=[]) (y:=[]) trivial trivial) (by kernel_rfl) (fun p=>by kernel_rfl)
def Ae5:List TOp:=[oo 1 (.box (.tmp 0)),oo 2 (.mov (.cst (.bool false)))]
def Ae6:List TOp:=[oo 4 (.fld 3 (.tmp 1)),oo 5 (.load false 1 (.tmp 4)),oo 6 (.bin false .eql (.tmp 5) (.cst (.str [])))]
def Ae7:List TOp:=[oo 2 (.mov (.cst (.bool false)))]
def Kl:Kp:=⟨[],[(2,false)],[],[],[]⟩
def Ae8:List TOp:=[oo 7 (.fld 3 (.tmp 1)),oo 8 (.load false 1 (.tmp 7)),oo 9 (.call 0 0 (.cst (.fn 51)) [(.tmp 8)] [] []),oo 3 (.alloc [.pv (.int .i64 0),.pv (.int .i64 0),.pv (.int .i64 0)]),on (.store 3 (.tmp 3) (.tmp 9))]
def Ae9:List TOp:=[oo 10 (.fld 2 (.tmp 3)),oo 11 (.load false 1 (.tmp 10)),oo 12 (.bin false .eql (.tmp 11) (.cst (.int .i64 0))),oo 13 (.mov (.tmp 12)),og 14 13 true .bool (.fld 0 (.tmp 3)),og 15 13 true .bool (.load false 1 (.tmp 14)),og 16 13 true .bool (.fld 0 (.tmp 1)),og 17 13 true .bool (.load false 1 (.tmp 16)),og 18 13 true .bool (.bin false .eql (.tmp 15) (.tmp 17)),oo 19 (.pick (.tmp 13) (.tmp 18) (.cst (.bool false))),oo 20 (.mov (.tmp 19)),og 21 20 true .bool (.fld 1 (.tmp 3)),og 22 20 true .bool (.load false 1 (.tmp 21)),og 23 20 true .bool (.fld 3 (.tmp 1)),og 24 20 true .bool (.load false 1 (.tmp 23)),og 25 20 true .bool (.len true (.tmp 24)),og 26 20 true .bool (.bin false .eql (.tmp 22) (.tmp 25)),oo 27 (.pick (.tmp 20) (.tmp 26) (.cst (.bool false))),oo 2 (.mov (.tmp 27))]
def An7:TFd:=⟨1,[(.tmp 2,.bool)],[],(.seq (.ops Ae5) (.seq (.seq (.ops Ae6) (.cond (.tmp 6) (.free (.seq (.ops Ae7) (.keep Kl .ret))) .skip)) (.seq (.ops Ae8) (.seq (.ops Ae9) (.keep Kl .ret)))))⟩
noncomputable def Ha:Ent:=⟨[.ty (.st 2)],[],[(.st 2)],⟨(.ty .bool),[],[],[.bool],[],[]⟩,none,fun p=>D0 p⟩
theorem Jy:Ha.ok Tryz.prog 105:=Au hm Tryz.func105 (fd:=An7) (by kernel_rfl) (Ak (l:=[(51,Hq)]) (y:=[]) ⟨Lv,trivial⟩ trivial) (by kernel_rfl) (fun p=>by kernel_rfl)
def Acl:List TOp:=[oo 2 (.mov (.cst (.bool false)))]
def Acm:List TOp:=[oo 3 (.mov (.tmp 0)),ot 4 (.st 2) (.build [.pv (.int .i64 0),.pv (.int .i64 0),.pv (.int .i64 0),.pv (.str [])] [(0,1,(.cst (.int .i64 1))),(3,1,(.tmp 3))]),oo 5 (.call 0 0 (.cst (.fn 105)) [(.tmp 4)] [] []),oo 2 (.mov (.tmp 5))]
def Ack:Kp:=⟨[],[(2,false)],[],[],[]⟩
def All:TFd:=⟨1,[(.tmp 2,.bool)],[],(.seq (.ops Acl) (.seq (.ops Acm) (.keep Ack .ret)))⟩
noncomputable def J3:Ent:=⟨[.ty .str],[],[.str],⟨(.ty .bool),[],[],[.bool],[],[]⟩,none,fun p=>E9 p⟩
theorem Y3:J3.ok Tryz.prog 80:=Au hm Tryz.func80 (fd:=All) (by kernel_rfl) (Ak (l:=[(105,Ha)]) (y:=[]) ⟨Jy,trivial⟩ trivial) (by kernel_rfl) (fun p=>by kernel_rfl)
def Alw:List TOp:=[oo 4 (.mov (.cst (.bool false)))]
def Alx:List TOp:=[oo 7 (.mov (.tmp 0)),ot 8 (.st 2) (.build [.pv (.int .i64 0),.pv (.int .i64 0),.pv (.int .i64 0),.pv (.str [])] [(0,1,(.cst (.int .i64 0))),(3,1,(.tmp 7))]),oo 9 (.call 0 0 (.cst (.fn 105)) [(.tmp 8)] [] []),oo 5 (.mov (.tmp 9))]
def Aly:List TOp:=[oo 10 (.mov (.tmp 0)),oo 11 (.mov (.tmp 1)),oo 12 (.call 0 0 (.cst (.fn 97)) [(.tmp 10),(.tmp 11)] [] []),oo 6 (.mov (.tmp 12))]
def Alz:List TOp:=[oo 13 (.mov (.tmp 5)),oo 14 (.mov (.tmp 13)),og 15 14 true .bool (.mov (.tmp 6)),og 16 14 true .bool (.un .not (.tmp 15)),oo 17 (.pick (.tmp 14) (.tmp 16) (.cst (.bool false))),oo 4 (.mov (.tmp 17))]
def Alv:Kp:=⟨[],[(4,false)],[],[],[]⟩
def Arm:TFd:=⟨2,[(.tmp 4,.bool)],[],(.seq (.ops Alw) (.seq (.ops Alx) (.seq (.ops Aly) (.seq (.ops Alz) (.keep Alv .ret)))))⟩
noncomputable def Ol:Ent:=⟨[.ty .str,.ty .bool],[],[.str,.bool],⟨(.ty .bool),[],[],[.bool],[],[]⟩,none,fun p=>Gw p.1 p.2⟩
theorem Ai8:Ol.ok Tryz.prog 79:=Au hm Tryz.func79 (fd:=Arm) (by kernel_rfl) (Ak (l:=[(105,Ha),(97,Fx)]) (y:=[]) ⟨Jy,Hr,trivial⟩ trivial) (by kernel_rfl) (fun p=>by kernel_rfl)
def Ald:List TOp:=[oo 1 (.box (.tmp 0)),oo 2 (.mov (.cst (.bool false)))]
def Ale:List TOp:=[oo 4 (.fld 0 (.tmp 1)),oo 5 (.load false 1 (.tmp 4)),oo 6 (.bin false .eql (.tmp 5) (.cst (.int .i64 0)))]
def Alf:List TOp:=[oo 7 (.fld 1 (.tmp 1)),oo 8 (.load false 1 (.tmp 7)),oo 9 (.len true (.tmp 8)),oo 3 (.mov (.tmp 9))]
def Alg:List TOp:=[oo 10 (.mov (.tmp 3)),oo 11 (.bin false .gtr (.tmp 10) (.cst (.int .i64 0))),oo 12 (.mov (.tmp 11)),og 13 12 true .bool (.fld 1 (.tmp 1)),og 14 12 true .bool (.load false 1 (.tmp 13)),og 15 12 true .bool (.mov (.tmp 3)),og 16 12 true .bool (.bin false .sub (.tmp 15) (.cst (.int .i64 1))),og 17 12 true .bool (.sidx (.tmp 14) (.tmp 16)),og 18 12 true .bool (.bin false .eql (.tmp 17) (.cst (.int .u8 37))),oo 19 (.pick (.tmp 12) (.tmp 18) (.cst (.bool false)))]
def Alh:List TOp:=[oo 20 (.mov (.tmp 3)),oo 21 (.bin false .sub (.tmp 20) (.cst (.int .i64 1))),oo 3 (.mov (.tmp 21))]
def Alc:Kp:=⟨[],[(1,false),(3,false)],[(.loc 1 0,false)],[],[]⟩
def Alk:Sig:=⟨[(1,some (.ptr (.loc 1 0) 0)),(3,some (.ty (.int .i64)))],[(.loc 1 0,(.box [none,none]))],[(.int .i64)],[],[]⟩
def Ali:List TOp:=[oo 22 (.fld 1 (.tmp 1)),oo 23 (.load false 1 (.tmp 22)),oo 24 (.mov (.tmp 3)),oo 25 (.slc true 0 (.tmp 23) none (some (.tmp 24))),oo 26 (.call 0 0 (.cst (.fn 80)) [(.tmp 25)] [] []),oo 2 (.mov (.tmp 26))]
def Hf:Kp:=⟨[],[(2,false)],[],[],[]⟩
def Alj:List TOp:=[oo 27 (.fld 0 (.tmp 1)),oo 28 (.load false 1 (.tmp 27)),oo 29 (.bin false .eql (.tmp 28) (.cst (.int .i64 1)))]
def Ahc:List TOp:=[oo 30 (.fld 1 (.tmp 1)),oo 31 (.load false 1 (.tmp 30)),oo 32 (.call 0 0 (.cst (.fn 79)) [(.tmp 31),(.cst (.bool false))] [] []),oo 2 (.mov (.tmp 32))]
def Ahd:List TOp:=[oo 33 (.fld 1 (.tmp 1)),oo 34 (.load false 1 (.tmp 33)),oo 35 (.bin false .eql (.tmp 34) (.cst (.str []))),oo 2 (.mov (.tmp 35))]
def Ark:TFd:=⟨1,[(.tmp 2,.bool)],[],(.seq (.ops Ald) (.seq (.seq (.ops Ale) (.cond (.tmp 6) (.free (.seq (.ops Alf) (.seq (.seq (.ops Alg) (.join Alc Alk (.cond (.tmp 19) (.ops Alh) .skip))) (.seq (.ops Ali) (.keep Hf .ret))))) .skip)) (.seq (.seq (.ops Alj) (.cond (.tmp 29) (.free (.seq (.ops Ahc) (.keep Hf .ret))) .skip)) (.seq (.ops Ahd) (.keep Hf .ret)))))⟩
noncomputable def Oh:Ent:=⟨[.ty (.st 4)],[],[(.st 4)],⟨(.ty .bool),[],[],[.bool],[],[]⟩,none,fun p=>Ej p⟩
theorem Ai6:Oh.ok Tryz.prog 47:=Au hm Tryz.func47 (fd:=Ark) (by kernel_rfl) (Ak (l:=[(80,J3),(79,Ol)]) (y:=[]) ⟨Y3,Ai8,trivial⟩ trivial) (by kernel_rfl) (fun p=>by kernel_rfl)
def Af1:List TOp:=[oo 2 (.mov (.cst (.int .i64 0)))]
def Af2:List TOp:=[oo 9 (.mov (.tmp 0)),oo 10 (.len false (.tmp 9)),oo 11 (.bin false .gtr (.tmp 10) (.cst (.int .i64 200)))]
def Af3:List TOp:=[oo 2 (.mov (.cst (.int .i64 0)))]
def D8:Kp:=⟨[],[(2,false)],[],[],[]⟩
def Af4:List TOp:=[oo 3 (.mov .nils)]
def Af5:List TOp:=[oo 12 (.mov (.tmp 0)),oo 13 (.len false (.tmp 12)),oo 14 (.bin false .sub (.tmp 13) (.cst (.int .i64 1))),oo 4 (.mov (.tmp 14))]
def Af6:List TOp:=[oo 15 (.mov (.tmp 4)),oo 16 (.bin false .geq (.tmp 15) (.cst (.int .i64 0)))]
def Af7:List TOp:=[oo 19 (.mov (.tmp 0)),oo 20 (.mov (.tmp 4)),oo 21 (.idx 2 (.tmp 19) (.tmp 20)),oo 22 (.fld 0 (.tmp 21)),oo 23 (.load false 1 (.tmp 22)),oo 24 (.call 0 0 (.cst (.fn 39)) [(.tmp 23)] [] []),oo 5 (.mov (.tmp 24))]
def Af8:List TOp:=[oo 25 (.mov (.tmp 0)),oo 26 (.mov (.tmp 4)),oo 27 (.idx 2 (.tmp 25) (.tmp 26)),ot 28 (.st 4) (.load true 2 (.tmp 27)),oo 29 (.call 0 0 (.cst (.fn 47)) [(.tmp 28)] [] []),oo 6 (.mov (.tmp 29))]
def Af9:List TOp:=[oo 30 (.mov (.tmp 5)),oo 31 (.bin false .lss (.tmp 30) (.cst (.int .i64 0))),oo 32 (.mov (.tmp 31)),og 33 32 false .bool (.mov (.tmp 6)),og 34 32 false .bool (.un .not (.tmp 33)),oo 35 (.pick (.tmp 32) (.cst (.bool true)) (.tmp 34)),oo 36 (.mov (.tmp 35)),og 37 36 false .bool (.mov (.tmp 5)),og 38 36 false .bool (.mov (.tmp 3)),og 39 36 false .bool (.len false (.tmp 38)),og 40 36 false .bool (.bin false .gtr (.tmp 37) (.tmp 39)),oo 41 (.pick (.tmp 36) (.cst (.bool true)) (.tmp 40))]
def Aa6:List TOp:=[oo 2 (.mov (.cst (.int .i64 0)))]
def Aa7:List TOp:=[oo 7 (.mov (.cst (.int .i64 0)))]
def Aa8:List TOp:=[oo 8 (.mov (.cst (.int .i64 0)))]
def Aa9:List TOp:=[oo 42 (.mov (.tmp 8)),oo 43 (.mov (.tmp 5)),oo 44 (.bin false .lss (.tmp 42) (.tmp 43))]
def Aba:List TOp:=[oo 47 (.mov (.tmp 7)),oo 48 (.mov (.tmp 3)),oo 49 (.mov (.tmp 3)),oo 50 (.len false (.tmp 49)),oo 51 (.bin false .sub (.tmp 50) (.cst (.int .i64 1))),oo 52 (.mov (.tmp 8)),oo 53 (.bin false .sub (.tmp 51) (.tmp 52)),oo 54 (.idx 1 (.tmp 48) (.tmp 53)),oo 55 (.load false 1 (.tmp 54)),oo 56 (.mm true (.tmp 47) [(.tmp 55)]),oo 7 (.mov (.tmp 56))]
def Abb:List TOp:=[oo 45 (.mov (.tmp 8)),oo 46 (.bin false .add (.tmp 45) (.cst (.int .i64 1))),oo 8 (.mov (.tmp 46))]
def Aa4:DC:=(.seq (.seq (.ops Aa9) (.cond (.tmp 44) .skip (.exit 2))) (.seq (.pass 3 (.ops Aba)) (.ops Abb)))
def Aa0:Kp:=⟨[],[(0,false),(3,false),(4,false),(5,false),(7,false),(8,false)],[],[],[]⟩
def Abh:Sig:=⟨[(0,none),(3,none),(4,none),(5,none),(7,some (.ty (.int .i64))),(8,some (.ty (.int .i64)))],[],[(.int .i64),(.int .i64)],[],[]⟩
def Aa1:Kp:=⟨[],[(0,false),(3,false),(4,false),(5,false),(7,false)],[],[],[]⟩
def Abi:Sig:=⟨[(0,none),(3,none),(4,none),(5,none),(7,some (.ty (.int .i64)))],[],[(.int .i64)],[],[]⟩
def Abc:List TOp:=[ot 57 (.int .i64) (.lit false 1 []),oo 58 (.mov (.tmp 3)),oo 59 (.mov (.tmp 3)),oo 60 (.len false (.tmp 59)),oo 61 (.mov (.tmp 5)),oo 62 (.bin false .sub (.tmp 60) (.tmp 61)),ot 63 (.int .i64) (.slc false 1 (.tmp 58) none (some (.tmp 62))),ot 64 (.int .i64) (.append 57 1 8 (.tmp 57) (.tmp 63)),oo 65 (.mov (.tmp 7)),oo 66 (.bin false .add (.tmp 65) (.cst (.int .i64 1))),ot 67 (.int .i64) (.lit false 1 [(.tmp 66)]),ot 68 (.int .i64) (.append 64 1 8 (.tmp 64) (.tmp 67)),oo 3 (.mov (.tmp 68))]
def Abd:List TOp:=[oo 17 (.mov (.tmp 4)),oo 18 (.bin false .sub (.tmp 17) (.cst (.int .i64 1))),oo 4 (.mov (.tmp 18))]
def Aa5:DC:=(.seq (.seq (.ops Af6) (.cond (.tmp 16) .skip (.exit 0))) (.seq (.pass 1 (.seq (.ops Af7) (.seq (.ops Af8) (.seq (.seq (.ops Af9) (.cond (.tmp 41) (.free (.seq (.ops Aa6) (.keep D8 .ret))) .skip)) (.seq (.ops Aa7) (.seq (.seq (.ops Aa8) (.join Aa1 Abi (.block 2 (.loop [0,3,4,5,7,8] [] Aa0 Abh Aa4)))) (.ops Abc))))))) (.ops Abd)))
def Aa2:Kp:=⟨[.loc 64 0],[(0,false),(3,true),(4,false)],[],[],[]⟩
def Abj:Sig:=⟨[(0,none),(3,some (.ty (.sl (.int .i64)))),(4,some (.ty (.int .i64)))],[],[(.sl (.int .i64)),(.int .i64)],[],[]⟩
def Aa3:Kp:=⟨[],[(3,false)],[],[],[]⟩
def Abk:Sig:=⟨[(3,some (.ty (.sl (.int .i64))))],[],[(.sl (.int .i64))],[],[]⟩
def Abe:List TOp:=[oo 69 (.mov (.tmp 3)),oo 70 (.len false (.tmp 69)),oo 71 (.bin false .neq (.tmp 70) (.cst (.int .i64 1))),oo 72 (.mov (.tmp 71)),og 73 72 false .bool (.mov (.tmp 3)),og 74 72 false .bool (.idx 1 (.tmp 73) (.cst (.int .i64 0))),og 75 72 false .bool (.load false 1 (.tmp 74)),og 76 72 false .bool (.bin false .gtr (.tmp 75) (.cst (.int .i64 24))),oo 77 (.pick (.tmp 72) (.cst (.bool true)) (.tmp 76))]
def Abf:List TOp:=[oo 2 (.mov (.cst (.int .i64 0)))]
def Abg:List TOp:=[oo 78 (.mov (.tmp 3)),oo 79 (.idx 1 (.tmp 78) (.cst (.int .i64 0))),oo 80 (.load false 1 (.tmp 79)),oo 2 (.mov (.tmp 80))]
def Aok:TFd:=⟨1,[(.tmp 2,.bool)],[],(.seq (.ops Af1) (.seq (.seq (.ops Af2) (.cond (.tmp 11) (.free (.seq (.ops Af3) (.keep D8 .ret))) .skip)) (.seq (.ops Af4) (.seq (.seq (.ops Af5) (.joinO Aa3 Abk (.block 0 (.loop [0,3,4] [] Aa2 Abj Aa5)))) (.seq (.seq (.ops Abe) (.cond (.tmp 77) (.free (.seq (.ops Abf) (.keep D8 .ret))) .skip)) (.seq (.ops Abg) (.keep D8 .ret)))))))⟩
noncomputable def Lx:Ent:=⟨[.ty (.sl (.st 4))],[],[(.sl (.st 4))],⟨(.ty (.int .i64)),[],[],[(.int .i64)],[],[]⟩,none,fun p=>D1 p⟩
theorem Ad1:Lx.ok Tryz.prog 22:=Au hm Tryz.func22 (fd:=Aok) (by kernel_rfl) (Ak (l:=[(39,Qq),(47,Oh)]) (y:=[]) ⟨Amr,Ai6,trivial⟩ trivial) (by kernel_rfl) (fun p=>by kernel_rfl)
def Tg:List TOp:=[oo 4 (.mov (.tmp 0)),oo 5 (.nchk (.tmp 4)),oo 6 (.fld 2 (.tmp 5)),oo 7 (.load false 1 (.tmp 6)),oo 8 (.un .not (.tmp 7)),oo 9 (.mov (.tmp 8)),og 10 9 true .bool (.mov (.tmp 0)),og 11 9 true .bool (.nchk (.tmp 10)),og 12 9 true .bool (.fld 0 (.tmp 11)),og 13 9 true .bool (.load false 1 (.tmp 12)),og 14 9 true .bool (.mov (.tmp 0)),og 15 9 true .bool (.nchk (.tmp 14)),og 16 9 true .bool (.fld 1 (.tmp 15)),og 17 9 true .bool (.load false 1 (.tmp 16)),og 18 9 true .bool (.mov (.tmp 1)),og 19 9 true .bool (.call 0 0 (.cst (.fn 94)) [(.tmp 13),(.tmp 17),(.tmp 18)] [] []),oo 20 (.pick (.tmp 9) (.tmp 19) (.cst (.bool false)))]
def Th:List TOp:=[oo 21 (.mov (.tmp 0)),oo 22 (.nchk (.tmp 21)),oo 23 (.fld 1 (.tmp 22)),oo 24 (.load false 1 (.tmp 23)),oo 25 (.bin false .add (.tmp 24) (.cst (.int .i64 1))),oo 26 (.nchk (.tmp 21)),oo 27 (.fld 1 (.tmp 26)),on (.store 1 (.tmp 27) (.tmp 25))]
def Ti:List TOp:=[oo 28 (.mov (.tmp 0)),oo 29 (.nchk (.tmp 28)),oo 30 (.fld 2 (.tmp 29)),on (.store 1 (.tmp 30) (.cst (.bool true)))]
def W9:TFd:=⟨2,[],[],(.seq (.draw [] Tg) (.cond (.tmp 20) (.ops Th) (.ops Ti)))⟩
def Ey:Ent:=⟨[.ptr (.ext 0) 0,.ty .str],[.st 9],[.str,(.st 9)],⟨(.tup []),[],[some (.st 9)],[(.st 9)],[],[]⟩,none,fun p=>Ai p.1 p.2⟩
theorem Hu:Ey.ok Tryz.prog 64:=Au hm Tryz.func64 (fd:=W9) (by kernel_rfl) (Ak (l:=[(94,Ei)]) (y:=[]) ⟨Fz,trivial⟩ trivial) (by kernel_rfl) (fun p=>by kernel_rfl)
def S7:List TOp:=[oo 4 (.mov (.cst (.str [])))]
def S8:List TOp:=[oo 7 (.mov (.tmp 0)),oo 8 (.nchk (.tmp 7)),oo 9 (.fld 2 (.tmp 8)),oo 10 (.load false 1 (.tmp 9)),oo 11 (.mov (.tmp 10)),og 12 11 false .bool (.mov (.tmp 0)),og 13 11 false .bool (.nchk (.tmp 12)),og 14 11 false .bool (.fld 1 (.tmp 13)),og 15 11 false .bool (.load false 1 (.tmp 14)),og 16 11 false .bool (.mov (.tmp 0)),og 17 11 false .bool (.nchk (.tmp 16)),og 18 11 false .bool (.fld 0 (.tmp 17)),og 19 11 false .bool (.load false 1 (.tmp 18)),og 20 11 false .bool (.len false (.tmp 19)),og 21 11 false .bool (.bin false .geq (.tmp 15) (.tmp 20)),oo 22 (.pick (.tmp 11) (.cst (.bool true)) (.tmp 21)),oo 23 (.mov (.tmp 22)),og 24 23 false .bool (.mov (.tmp 0)),og 25 23 false .bool (.nchk (.tmp 24)),og 26 23 false .bool (.fld 0 (.tmp 25)),og 27 23 false .bool (.load false 1 (.tmp 26)),og 28 23 false .bool (.mov (.tmp 0)),og 29 23 false .bool (.nchk (.tmp 28)),og 30 23 false .bool (.fld 1 (.tmp 29)),og 31 23 false .bool (.load false 1 (.tmp 30)),og 32 23 false .bool (.idx 4 (.tmp 27) (.tmp 31)),og 33 23 false .bool (.fld 0 (.tmp 32)),og 34 23 false .bool (.load false 1 (.tmp 33)),og 35 23 false .bool (.mov (.tmp 1)),og 36 23 false .bool (.bin false .neq (.tmp 34) (.tmp 35)),oo 37 (.pick (.tmp 23) (.cst (.bool true)) (.tmp 36))]
def S9:List TOp:=[oo 38 (.mov (.tmp 0)),oo 39 (.nchk (.tmp 38)),oo 40 (.fld 2 (.tmp 39)),on (.store 1 (.tmp 40) (.cst (.bool true)))]
def Ta:List TOp:=[oo 4 (.mov (.cst (.str [])))]
def En:Kp:=⟨[],[(4,false)],[(.ext 0,false)],[],[]⟩
def Tb:List TOp:=[oo 41 (.mov (.tmp 0)),oo 42 (.nchk (.tmp 41)),oo 43 (.fld 0 (.tmp 42)),oo 44 (.load false 1 (.tmp 43)),oo 45 (.mov (.tmp 0)),oo 46 (.nchk (.tmp 45)),oo 47 (.fld 1 (.tmp 46)),oo 48 (.load false 1 (.tmp 47)),oo 49 (.idx 4 (.tmp 44) (.tmp 48)),oo 50 (.fld 3 (.tmp 49)),oo 51 (.load false 1 (.tmp 50)),oo 5 (.mov (.tmp 51))]
def Tc:List TOp:=[oo 52 (.mov (.tmp 5)),oo 53 (.call 0 0 (.cst (.fn 97)) [(.tmp 52),(.cst (.bool true))] [] []),oo 6 (.mov (.tmp 53))]
def Td:List TOp:=[oo 54 (.mov (.tmp 1)),oo 55 (.bin false .eql (.tmp 54) (.cst (.int .i64 0))),oo 56 (.mov (.tmp 55)),og 57 56 true .bool (.mov (.tmp 6)),oo 58 (.pick (.tmp 56) (.tmp 57) (.cst (.bool false)))]
def Te:List TOp:=[oo 59 (.mov (.tmp 0)),oo 60 (.nchk (.tmp 59)),oo 61 (.fld 2 (.tmp 60)),on (.store 1 (.tmp 61) (.cst (.bool true)))]
def Tf:List TOp:=[oo 4 (.mov (.cst (.str [])))]
def Rj:List TOp:=[oo 62 (.mov (.tmp 0)),oo 63 (.nchk (.tmp 62)),oo 64 (.fld 1 (.tmp 63)),oo 65 (.load false 1 (.tmp 64)),oo 66 (.bin false .add (.tmp 65) (.cst (.int .i64 1))),oo 67 (.nchk (.tmp 62)),oo 68 (.fld 1 (.tmp 67)),on (.store 1 (.tmp 68) (.tmp 66))]
def Rk:List TOp:=[oo 69 (.mov (.tmp 5)),oo 4 (.mov (.tmp 69))]
def W8:TFd:=⟨2,[(.tmp 4,.bool)],[],(.seq (.ops S7) (.seq (.seq (.draw [] S8) (.cond (.tmp 37) (.free (.seq (.ops S9) (.seq (.ops Ta) (.keep En .ret)))) .skip)) (.seq (.draw [] Tb) (.seq (.ops Tc) (.seq (.seq (.ops Td) (.cond (.tmp 58) (.free (.seq (.ops Te) (.seq (.ops Tf) (.keep En .ret)))) .skip)) (.seq (.ops Rj) (.seq (.ops Rk) (.keep En .ret))))))))⟩
noncomputable def Ew:Ent:=⟨[.ptr (.ext 0) 0,.ty (.int .i64)],[.st 9],[(.int .i64),(.st 9)],⟨(.ty .str),[],[some (.st 9)],[.str,(.st 9)],[],[]⟩,none,fun p=>A0 p.1 p.2⟩
theorem Ht:Ew.ok Tryz.prog 65:=Au hm Tryz.func65 (fd:=W8) (by kernel_rfl) (Ak (l:=[(97,Fx)]) (y:=[]) ⟨Hr,trivial⟩ trivial) (by kernel_rfl) (fun p=>by kernel_rfl)
def Q8:List TOp:=[oo 2 (.mov .nils)]
def Q9:List TOp:=[oo 3 (.mov .nils)]
def Ra:List TOp:=[oo 5 (.mov (.tmp 0)),oo 6 (.nchk (.tmp 5)),oo 7 (.fld 2 (.tmp 6)),oo 8 (.load false 1 (.tmp 7)),oo 9 (.un .not (.tmp 8))]
def Rb:List TOp:=[oo 4 (.alloc [.pv (.str []),.pv (.str [])])]
def Rc:List TOp:=[oo 10 (.mov (.tmp 0)),oo 11 (.call 0 2 (.cst (.fn 65)) [(.tmp 10),(.cst (.int .i64 1))] [] [.ext 0]),oo 12 (.fld 0 (.tmp 4)),on (.store 1 (.tmp 12) (.tmp 11))]
def Rd:List TOp:=[oo 13 (.mov (.tmp 0)),oo 14 (.call 0 2 (.cst (.fn 64)) [(.tmp 13),(.cst (.str [58]))] [] [.ext 0])]
def Re:List TOp:=[oo 15 (.mov (.tmp 0)),oo 16 (.call 0 2 (.cst (.fn 65)) [(.tmp 15),(.cst (.int .i64 1))] [] [.ext 0]),oo 17 (.fld 1 (.tmp 4)),on (.store 1 (.tmp 17) (.tmp 16))]
def Rf:List TOp:=[oo 18 (.mov (.tmp 0)),oo 19 (.call 0 2 (.cst (.fn 64)) [(.tmp 18),(.cst (.str [37]))] [] [.ext 0])]
def Rg:List TOp:=[oo 20 (.mov (.tmp 0)),oo 21 (.call 0 2 (.cst (.fn 64)) [(.tmp 20),(.cst (.str [59]))] [] [.ext 0])]
def Rh:List TOp:=[oo 22 (.mov (.tmp 3)),ot 23 (.st 6) (.load true 2 (.tmp 4)),ot 24 (.st 6) (.lit false 2 [(.tmp 23)]),ot 25 (.st 6) (.append 3 2 32 (.tmp 22) (.tmp 24)),oo 3 (.mov (.tmp 25))]
def Qh:List TOp:=[oo 26 (.mov (.tmp 0)),oo 27 (.nchk (.tmp 26)),oo 28 (.fld 0 (.tmp 27)),oo 29 (.load false 1 (.tmp 28)),oo 30 (.mov (.tmp 0)),oo 31 (.nchk (.tmp 30)),oo 32 (.fld 1 (.tmp 31)),oo 33 (.load false 1 (.tmp 32)),oo 34 (.call 0 0 (.cst (.fn 94)) [(.tmp 29),(.tmp 33),(.cst (.str [125]))] [] [])]
def Qi:List TOp:=[oo 35 (.mov (.tmp 3)),oo 2 (.mov (.tmp 35))]
def G3:Kp:=⟨[.loc 3 0],[(2,true)],[(.ext 0,false)],[],[]⟩
def Qg:DC:=(.seq (.seq (.ops Ra) (.cond (.tmp 9) .skip (.exit 0))) (.pass 1 (.seq (.ops Rb) (.seq (.ops Rc) (.seq (.ops Rd) (.seq (.ops Re) (.seq (.ops Rf) (.seq (.ops Rg) (.seq (.ops Rh) (.seq (.draw [] Qh) (.cond (.tmp 34) (.free (.seq (.ops Qi) (.keep G3 .ret))) .skip)))))))))))
def Qe:Kp:=⟨[],[(0,false),(3,false)],[(.loc 3 0,false),(.ext 0,false)],[.loc 4 0],[((.slot 3 (.loc 3 0) 2),(.st 6))]⟩
def Qk:Sig:=⟨[(0,some (.ptr (.ext 0) 0)),(3,some (.own (.loc 3 0)))],[(.loc 3 0,(.row (.st 6))),(.ext 0,(.st 9))],[(.st 9),(.sl (.st 6))],[1,0],[1,0]⟩
def Qf:Kp:=⟨[.loc 3 0],[(3,true)],[(.ext 0,false)],[],[]⟩
def Ql:Sig:=⟨[(3,some (.ty (.sl (.st 6))))],[(.ext 0,(.st 9))],[(.sl (.st 6)),(.st 9)],[],[]⟩
def Qj:List TOp:=[oo 36 (.mov (.tmp 3)),oo 2 (.mov (.tmp 36))]
def Um:TFd:=⟨1,[(.tmp 2,.bool)],[],(.seq (.ops Q8) (.seq (.ops Q9) (.seq (.joinO Qf Ql (.block 0 (.loop [0,3] [] Qe Qk Qg))) (.seq (.ops Qj) (.keep G3 .ret)))))⟩
noncomputable def Hs:Ent:=⟨[.ptr (.ext 0) 0],[.st 9],[(.st 9)],⟨(.ty (.sl (.st 6))),[],[some (.st 9)],[(.sl (.st 6)),(.st 9)],[],[]⟩,none,fun p=>Dj p⟩
theorem Qz:Hs.ok Tryz.prog 66:=Au hm Tryz.func66 (fd:=Um) (by kernel_rfl) (Ak (l:=[(65,Ew),(64,Ey),(94,Ei)]) (y:=[]) ⟨Ht,Hu,Fz,trivial⟩ trivial) (by kernel_rfl) (fun p=>by kernel_rfl)
def Ox:List TOp:=[oo 2 (.alloc [.pv (.str []),.pv (.str []),.pv (.str []),.pv (.str []),.nils,.nils,.pv (.str []),.pv (.str []),.pv (.str [])])]
def Oy:List TOp:=[oo 3 (.alloc [.pv (.str []),.pv (.str []),.pv (.str []),.pv (.str []),.nils,.nils,.pv (.str []),.pv (.str []),.pv (.str [])])]
def Oz:List TOp:=[oo 7 (.mov (.tmp 0)),oo 8 (.call 0 2 (.cst (.fn 64)) [(.tmp 7),(.cst (.str [112,114,111,100,117,99,116]))] [] [.ext 0])]
def O0:List TOp:=[oo 9 (.mov (.tmp 0)),oo 10 (.call 0 2 (.cst (.fn 65)) [(.tmp 9),(.cst (.int .i64 0))] [] [.ext 0]),oo 11 (.fld 0 (.tmp 3)),on (.store 1 (.tmp 11) (.tmp 10))]
def O1:List TOp:=[oo 12 (.mov (.tmp 0)),oo 13 (.call 0 2 (.cst (.fn 65)) [(.tmp 12),(.cst (.int .i64 0))] [] [.ext 0]),oo 14 (.fld 1 (.tmp 3)),on (.store 1 (.tmp 14) (.tmp 13))]
def O2:List TOp:=[oo 15 (.mov (.tmp 0)),oo 16 (.call 0 2 (.cst (.fn 64)) [(.tmp 15),(.cst (.str [123]))] [] [.ext 0])]
def O3:List TOp:=[oo 17 (.mov (.tmp 0)),oo 18 (.call 0 2 (.cst (.fn 64)) [(.tmp 17),(.cst (.str [98,97,115,105,115]))] [] [.ext 0])]
def O4:List TOp:=[oo 19 (.mov (.tmp 0)),oo 20 (.call 0 2 (.cst (.fn 65)) [(.tmp 19),(.cst (.int .i64 0))] [] [.ext 0]),oo 21 (.fld 2 (.tmp 3)),on (.store 1 (.tmp 21) (.tmp 20))]
def O5:List TOp:=[oo 22 (.mov (.tmp 0)),oo 23 (.call 0 2 (.cst (.fn 64)) [(.tmp 22),(.cst (.str [59]))] [] [.ext 0])]
def O6:List TOp:=[oo 24 (.mov (.tmp 0)),oo 25 (.call 0 2 (.cst (.fn 64)) [(.tmp 24),(.cst (.str [112,101,114,105,111,100]))] [] [.ext 0])]
def Mj:List TOp:=[oo 26 (.mov (.tmp 0)),oo 27 (.call 0 2 (.cst (.fn 65)) [(.tmp 26),(.cst (.int .i64 1))] [] [.ext 0]),oo 28 (.fld 3 (.tmp 3)),on (.store 1 (.tmp 28) (.tmp 27))]
def Mk:List TOp:=[oo 29 (.mov (.tmp 0)),oo 30 (.call 0 2 (.cst (.fn 64)) [(.tmp 29),(.cst (.str [59]))] [] [.ext 0])]
def Ml:List TOp:=[oo 31 (.mov (.tmp 0)),oo 32 (.call 0 2 (.cst (.fn 64)) [(.tmp 31),(.cst (.str [116,105,101,114,115]))] [] [.ext 0])]
def Mm:List TOp:=[oo 33 (.mov (.tmp 0)),oo 34 (.call 0 2 (.cst (.fn 64)) [(.tmp 33),(.cst (.str [123]))] [] [.ext 0])]
def Mn:List TOp:=[oo 35 (.mov (.tmp 0)),oo 36 (.call 0 2 (.cst (.fn 66)) [(.tmp 35)] [] [.ext 0]),oo 37 (.fld 4 (.tmp 3)),on (.store 1 (.tmp 37) (.tmp 36))]
def Mo:List TOp:=[oo 38 (.mov (.tmp 0)),oo 39 (.call 0 2 (.cst (.fn 64)) [(.tmp 38),(.cst (.str [125]))] [] [.ext 0])]
def Mp:List TOp:=[oo 40 (.mov (.tmp 0)),oo 41 (.call 0 2 (.cst (.fn 64)) [(.tmp 40),(.cst (.str [102,101,101]))] [] [.ext 0])]
def Mq:List TOp:=[oo 42 (.mov (.tmp 0)),oo 43 (.nchk (.tmp 42)),oo 44 (.fld 2 (.tmp 43)),oo 45 (.load false 1 (.tmp 44)),oo 46 (.un .not (.tmp 45))]
def Mr:List TOp:=[oo 48 (.mov (.tmp 0)),oo 49 (.nchk (.tmp 48)),oo 50 (.fld 0 (.tmp 49)),oo 51 (.load false 1 (.tmp 50)),oo 52 (.mov (.tmp 0)),oo 53 (.nchk (.tmp 52)),oo 54 (.fld 1 (.tmp 53)),oo 55 (.load false 1 (.tmp 54)),oo 56 (.call 0 0 (.cst (.fn 33)) [(.tmp 51),(.tmp 55),(.cst (.int .i64 0))] [] []),oo 47 (.mov (.tmp 56)),oo 57 (.ext 0 (.tmp 47)),oo 58 (.ext 1 (.tmp 47)),oo 59 (.ext 2 (.tmp 47)),oo 4 (.mov (.tmp 57)),oo 5 (.mov (.tmp 58)),oo 6 (.mov (.tmp 59))]
def Ms:List TOp:=[oo 60 (.mov (.tmp 4)),oo 61 (.fld 5 (.tmp 3)),on (.store 1 (.tmp 61) (.tmp 60))]
def Mt:List TOp:=[oo 62 (.mov (.tmp 0)),oo 63 (.mov (.tmp 5)),oo 64 (.nchk (.tmp 62)),oo 65 (.fld 1 (.tmp 64)),on (.store 1 (.tmp 65) (.tmp 63))]
def Mu:List TOp:=[oo 66 (.mov (.tmp 0)),oo 67 (.mov (.tmp 6)),oo 68 (.un .not (.tmp 67)),oo 69 (.nchk (.tmp 66)),oo 70 (.fld 2 (.tmp 69)),on (.store 1 (.tmp 70) (.tmp 68))]
def Mh:Kp:=⟨[],[(0,false),(2,false),(3,false)],[(.ext 0,false),(.loc 2 0,false),(.loc 3 0,true)],[],[]⟩
def M7:Sig:=⟨[(0,some (.ptr (.ext 0) 0)),(2,some (.ptr (.loc 2 0) 0)),(3,some (.ptr (.loc 3 0) 0))],[(.ext 0,(.st 9)),(.loc 2 0,(.box [none,none,none,none,some .nils,some .nils,none,none,none])),(.loc 3 0,(.st 7))],[(.st 9),(.st 7)],[],[]⟩
def Mv:List TOp:=[oo 71 (.mov (.tmp 0)),oo 72 (.call 0 2 (.cst (.fn 64)) [(.tmp 71),(.cst (.str [59]))] [] [.ext 0])]
def Mw:List TOp:=[oo 73 (.mov (.tmp 0)),oo 74 (.call 0 2 (.cst (.fn 64)) [(.tmp 73),(.cst (.str [109,105,110,105,109,117,109]))] [] [.ext 0])]
def Mx:List TOp:=[oo 75 (.mov (.tmp 0)),oo 76 (.call 0 2 (.cst (.fn 65)) [(.tmp 75),(.cst (.int .i64 1))] [] [.ext 0]),oo 77 (.fld 6 (.tmp 3)),on (.store 1 (.tmp 77) (.tmp 76))]
def My:List TOp:=[oo 78 (.mov (.tmp 0)),oo 79 (.call 0 2 (.cst (.fn 64)) [(.tmp 78),(.cst (.str [59]))] [] [.ext 0])]
def Mz:List TOp:=[oo 80 (.mov (.tmp 0)),oo 81 (.call 0 2 (.cst (.fn 64)) [(.tmp 80),(.cst (.str [111,118,101,114,100,114,97,102,116]))] [] [.ext 0])]
def M0:List TOp:=[oo 82 (.mov (.tmp 0)),oo 83 (.call 0 2 (.cst (.fn 65)) [(.tmp 82),(.cst (.int .i64 1))] [] [.ext 0]),oo 84 (.fld 7 (.tmp 3)),on (.store 1 (.tmp 84) (.tmp 83))]
def M1:List TOp:=[oo 85 (.mov (.tmp 0)),oo 86 (.call 0 2 (.cst (.fn 64)) [(.tmp 85),(.cst (.str [59]))] [] [.ext 0])]
def M2:List TOp:=[oo 87 (.mov (.tmp 0)),oo 88 (.call 0 2 (.cst (.fn 64)) [(.tmp 87),(.cst (.str [110,111,116,105,99,101]))] [] [.ext 0])]
def M3:List TOp:=[oo 89 (.mov (.tmp 0)),oo 90 (.call 0 2 (.cst (.fn 65)) [(.tmp 89),(.cst (.int .i64 1))] [] [.ext 0]),oo 91 (.fld 8 (.tmp 3)),on (.store 1 (.tmp 91) (.tmp 90))]
def M4:List TOp:=[oo 92 (.mov (.tmp 0)),oo 93 (.call 0 2 (.cst (.fn 64)) [(.tmp 92),(.cst (.str [59]))] [] [.ext 0])]
def M5:List TOp:=[oo 94 (.mov (.tmp 0)),oo 95 (.call 0 2 (.cst (.fn 64)) [(.tmp 94),(.cst (.str [125]))] [] [.ext 0])]
def M6:List TOp:=[ot 96 (.st 7) (.load true 9 (.tmp 3)),on (.store 9 (.tmp 2) (.tmp 96))]
def Mi:Kp:=⟨[],[(2,false)],[(.ext 0,false),(.loc 2 0,false)],[],[]⟩
def Ri:TFd:=⟨1,[(.cell 2 true 9,(.st 7))],[],(.seq (.ops Ox) (.seq (.ops Oy) (.seq (.ops Oz) (.seq (.ops O0) (.seq (.ops O1) (.seq (.ops O2) (.seq (.ops O3) (.seq (.ops O4) (.seq (.ops O5) (.seq (.ops O6) (.seq (.ops Mj) (.seq (.ops Mk) (.seq (.ops Ml) (.seq (.ops Mm) (.seq (.ops Mn) (.seq (.ops Mo) (.seq (.ops Mp) (.seq (.seq (.ops Mq) (.join Mh M7 (.cond (.tmp 46) (.seq (.draw [] Mr) (.seq (.ops Ms) (.seq (.ops Mt) (.ops Mu)))) .skip))) (.seq (.ops Mv) (.seq (.ops Mw) (.seq (.ops Mx) (.seq (.ops My) (.seq (.ops Mz) (.seq (.ops M0) (.seq (.ops M1) (.seq (.ops M2) (.seq (.ops M3) (.seq (.ops M4) (.seq (.ops M5) (.seq (.ops M6) (.keep Mi .ret)))))))))))))))))))))))))))))))⟩
noncomputable def G2:Ent:=⟨[.ptr (.ext 0) 0],[.st 9],[(.st 9)],⟨(.ty (.st 7)),[],[some (.st 9)],[(.st 7),(.st 9)],[],[]⟩,none,fun p=>B5 p⟩
theorem Oi:G2.ok Tryz.prog 36:=Au hm Tryz.func36 (fd:=Ri) (by kernel_rfl) (Ak (l:=[(64,Ey),(65,Ew),(66,Hs),(33,(Cp 100000))]) (y:=[]) ⟨Hu,Ht,Qz,(Ad2 100000),trivial⟩ trivial) (by kernel_rfl) (fun p=>by kernel_rfl)
def Aoa:List TOp:=[oo 2 (.mov .nils),oo 3 (.mov (.cst (.int .i64 0))),oo 4 (.mov (.cst (.int .i64 0))),oo 5 (.mov (.cst (.int .i64 0)))]
def Aob:List TOp:=[oo 19 (.mov (.tmp 0)),oo 20 (.call 0 0 (.cst (.fn 26)) [(.tmp 19)] [] []),oo 18 (.mov (.tmp 20)),oo 21 (.ext 0 (.tmp 18)),oo 22 (.ext 1 (.tmp 18)),oo 23 (.ext 2 (.tmp 18)),oo 6 (.mov (.tmp 21)),oo 7 (.mov (.tmp 22)),oo 8 (.mov (.tmp 23))]
def Aoc:List TOp:=[oo 24 (.mov (.tmp 8)),oo 25 (.bin false .neq (.tmp 24) (.cst (.int .i64 0)))]
def Aod:List TOp:=[oo 27 (.mov (.tmp 0)),oo 28 (.mov (.tmp 7)),oo 29 (.call 0 0 (.cst (.fn 32)) [(.tmp 27),(.tmp 28)] [] []),oo 26 (.mov (.tmp 29)),oo 30 (.ext 0 (.tmp 26)),oo 31 (.ext 1 (.tmp 26)),oo 9 (.mov (.tmp 30)),oo 10 (.mov (.tmp 31))]
def Aoe:List TOp:=[oo 32 (.mov (.tmp 9)),oo 33 (.mov (.tmp 10)),oo 34 (.mov (.tmp 8)),oo 2 (.mov .nils),oo 3 (.mov (.tmp 32)),oo 4 (.mov (.tmp 33)),oo 5 (.mov (.tmp 34))]
def Ff:Kp:=⟨[],[(2,true),(3,false),(4,false),(5,false)],[],[],[]⟩
def Aof:List TOp:=[oo 35 (.mov (.tmp 6)),ot 36 (.st 9) (.build [.nils,.pv (.int .i64 0),.pv (.bool false)] [(0,1,(.tmp 35))]),oo 37 (.box (.tmp 36)),oo 11 (.mov (.tmp 37))]
def Aog:List TOp:=[oo 12 (.mov .nils)]
def Aoh:List TOp:=[oo 13 (.mov (.cst (.bool false)))]
def Aoi:List TOp:=[oo 38 (.mov (.tmp 11)),oo 39 (.nchk (.tmp 38)),oo 40 (.fld 2 (.tmp 39)),oo 41 (.load false 1 (.tmp 40)),oo 42 (.un .not (.tmp 41)),oo 43 (.mov (.tmp 42)),og 44 43 true .bool (.mov (.tmp 11)),og 45 43 true .bool (.nchk (.tmp 44)),og 46 43 true .bool (.fld 1 (.tmp 45)),og 47 43 true .bool (.load false 1 (.tmp 46)),og 48 43 true .bool (.mov (.tmp 6)),og 49 43 true .bool (.len false (.tmp 48)),og 50 43 true .bool (.bin false .lss (.tmp 47) (.tmp 49)),oo 51 (.pick (.tmp 43) (.tmp 50) (.cst (.bool false)))]
def Akl:List TOp:=[oo 52 (.mov (.tmp 11)),oo 53 (.call 0 2 (.cst (.fn 36)) [(.tmp 52)] [] [.loc 37 0]),oo 14 (.alloc [.pv (.str []),.pv (.str []),.pv (.str []),.pv (.str []),.nils,.nils,.pv (.str []),.pv (.str []),.pv (.str [])]),on (.store 9 (.tmp 14) (.tmp 53))]
def Akm:List TOp:=[oo 54 (.mov (.tmp 13)),oo 55 (.mov (.tmp 54)),og 56 55 false .bool (.fld 4 (.tmp 14)),og 57 55 false .bool (.load false 1 (.tmp 56)),og 58 55 false .bool (.len false (.tmp 57)),og 59 55 false .bool (.bin false .gtr (.tmp 58) (.cst (.int .i64 8))),oo 60 (.pick (.tmp 55) (.cst (.bool true)) (.tmp 59)),oo 61 (.mov (.tmp 60)),og 62 61 false .bool (.fld 5 (.tmp 14)),og 63 61 false .bool (.load false 1 (.tmp 62)),og 64 61 false .bool (.call 0 0 (.cst (.fn 22)) [(.tmp 63)] [] []),og 65 61 false .bool (.bin false .eql (.tmp 64) (.cst (.int .i64 0))),oo 66 (.pick (.tmp 61) (.cst (.bool true)) (.tmp 65)),oo 13 (.mov (.tmp 66))]
def Akn:List TOp:=[oo 67 (.mov (.tmp 12)),ot 68 (.st 7) (.load true 9 (.tmp 14)),ot 69 (.st 7) (.lit false 9 [(.tmp 68)]),ot 70 (.st 7) (.append 12 9 160 (.tmp 67) (.tmp 69)),oo 12 (.mov (.tmp 70))]
def Akk:DC:=(.seq (.seq (.ops Aoi) (.cond (.tmp 51) .skip (.exit 0))) (.pass 1 (.seq (.ops Akl) (.seq (.ops Akm) (.ops Akn)))))
def Aki:Kp:=⟨[],[(0,false),(6,false),(11,false),(12,false),(13,false)],[(.loc 12 0,false),(.loc 37 0,false)],[.loc 14 0],[((.slot 12 (.loc 12 0) 9),(.st 7))]⟩
def Aku:Sig:=⟨[(0,none),(6,none),(11,some (.ptr (.loc 37 0) 0)),(12,some (.own (.loc 12 0))),(13,some (.ty .bool))],[(.loc 12 0,(.row (.st 7))),(.loc 37 0,(.st 9))],[.bool,(.st 9),(.sl (.st 7))],[0,2,1],[0,2,1]⟩
def Akj:Kp:=⟨[.loc 12 0],[(0,false),(6,false),(11,false),(12,true),(13,false)],[(.loc 37 0,false)],[],[]⟩
def Akv:Sig:=⟨[(0,none),(6,none),(11,some (.ptr (.loc 37 0) 0)),(12,some (.ty (.sl (.st 7)))),(13,some (.ty .bool))],[(.loc 37 0,(.st 9))],[(.sl (.st 7)),.bool,(.st 9)],[],[]⟩
def Ako:List TOp:=[oo 71 (.mov (.tmp 11)),oo 72 (.nchk (.tmp 71)),oo 73 (.fld 2 (.tmp 72)),oo 74 (.load false 1 (.tmp 73))]
def Akp:List TOp:=[oo 76 (.mov (.tmp 0)),oo 77 (.mov (.tmp 6)),oo 78 (.mov (.tmp 11)),oo 79 (.nchk (.tmp 78)),oo 80 (.fld 1 (.tmp 79)),oo 81 (.load false 1 (.tmp 80)),oo 82 (.call 0 0 (.cst (.fn 34)) [(.tmp 76),(.tmp 77),(.tmp 81)] [] []),oo 75 (.mov (.tmp 82)),oo 83 (.ext 0 (.tmp 75)),oo 84 (.ext 1 (.tmp 75)),oo 85 (.ext 2 (.tmp 75)),oo 15 (.mov (.tmp 83)),oo 16 (.mov (.tmp 84)),oo 17 (.mov (.tmp 85))]
def Akq:List TOp:=[oo 86 (.mov (.tmp 15)),oo 87 (.mov (.tmp 16)),oo 88 (.mov (.tmp 17)),oo 2 (.mov .nils),oo 3 (.mov (.tmp 86)),oo 4 (.mov (.tmp 87)),oo 5 (.mov (.tmp 88))]
def Akr:List TOp:=[oo 89 (.mov (.tmp 13)),oo 90 (.mov (.tmp 89)),og 91 90 false .bool (.mov (.tmp 12)),og 92 90 false .bool (.len false (.tmp 91)),og 93 90 false .bool (.bin false .gtr (.tmp 92) (.cst (.int .i64 16))),oo 94 (.pick (.tmp 90) (.cst (.bool true)) (.tmp 93))]
def Aks:List TOp:=[oo 2 (.mov .nils),oo 3 (.mov (.cst (.int .i64 1))),oo 4 (.mov (.cst (.int .i64 1))),oo 5 (.mov (.cst (.int .i64 4)))]
def Akt:List TOp:=[oo 95 (.mov (.tmp 12)),oo 2 (.mov (.tmp 95)),oo 3 (.mov (.cst (.int .i64 0))),oo 4 (.mov (.cst (.int .i64 0))),oo 5 (.mov (.cst (.int .i64 0)))]
def At4:TFd:=⟨1,[(.tmp 2,.bool),(.tmp 3,.bool),(.tmp 4,.bool),(.tmp 5,.bool)],[],(.seq (.ops Aoa) (.seq (.ops Aob) (.seq (.seq (.ops Aoc) (.cond (.tmp 25) (.free (.seq (.ops Aod) (.seq (.ops Aoe) (.keep Ff .ret)))) .skip)) (.seq (.ops Aof) (.seq (.ops Aog) (.seq (.ops Aoh) (.seq (.join Akj Akv (.block 0 (.loop [0,6,11,12,13] [] Aki Aku Akk))) (.seq (.seq (.ops Ako) (.cond (.tmp 74) (.free (.seq (.ops Akp) (.seq (.ops Akq) (.keep Ff .ret)))) .skip)) (.seq (.seq (.ops Akr) (.cond (.tmp 94) (.free (.seq (.ops Aks) (.keep Ff .ret))) .skip)) (.seq (.ops Akt) (.keep Ff .ret)))))))))))⟩
noncomputable def Qp:Ent:=⟨[.ty .str],[],[.str],⟨(.tup [(.ty (.sl (.st 7))),(.ty (.int .i64)),(.ty (.int .i64)),(.ty (.int .i64))]),[],[],[(.sl (.st 7)),(.int .i64),(.int .i64),(.int .i64)],[],[]⟩,none,fun p=>Hj p⟩
theorem Amq:Qp.ok Tryz.prog 13:=Au hm Tryz.func13 (fd:=At4) (by kernel_rfl) (Ak (l:=[(26,Qo),(32,Es),(36,G2),(22,Lx),(34,Ly)]) (y:=[]) ⟨Amp,Gr,Oi,Ad1,Ad3,trivial⟩ trivial) (by kernel_rfl) (fun p=>by kernel_rfl)
def Akx:List TOp:=[oo 2 (.box (.tmp 0)),oo 3 (.box (.tmp 1)),oo 4 (.mov (.cst (.bool false)))]
def Aky:List TOp:=[oo 7 (.fld 5 (.tmp 2)),oo 8 (.load false 1 (.tmp 7)),oo 9 (.fld 5 (.tmp 3)),oo 10 (.load false 1 (.tmp 9)),oo 11 (.call 0 0 (.cst (.fn 11)) [(.tmp 8),(.tmp 10)] [] []),oo 5 (.mov (.tmp 11))]
def Akz:List TOp:=[oo 12 (.mov (.tmp 5)),oo 13 (.un .not (.tmp 12)),oo 14 (.mov (.tmp 13)),og 15 14 false .bool (.fld 4 (.tmp 2)),og 16 14 false .bool (.load false 1 (.tmp 15)),og 17 14 false .bool (.len false (.tmp 16)),og 18 14 false .bool (.fld 4 (.tmp 3)),og 19 14 false .bool (.load false 1 (.tmp 18)),og 20 14 false .bool (.len false (.tmp 19)),og 21 14 false .bool (.bin false .neq (.tmp 17) (.tmp 20)),oo 22 (.pick (.tmp 14) (.cst (.bool true)) (.tmp 21))]
def Ak0:List TOp:=[oo 4 (.mov (.cst (.bool false)))]
def He:Kp:=⟨[],[(4,false)],[],[],[]⟩
def Ak1:List TOp:=[oo 6 (.mov (.cst (.int .i64 0)))]
def Ak2:List TOp:=[oo 23 (.mov (.tmp 6)),oo 24 (.fld 4 (.tmp 2)),oo 25 (.load false 1 (.tmp 24)),oo 26 (.len false (.tmp 25)),oo 27 (.bin false .lss (.tmp 23) (.tmp 26))]
def Ak3:List TOp:=[oo 30 (.fld 4 (.tmp 2)),oo 31 (.load false 1 (.tmp 30)),oo 32 (.mov (.tmp 6)),oo 33 (.idx 2 (.tmp 31) (.tmp 32)),ot 34 (.st 6) (.load true 2 (.tmp 33)),oo 35 (.fld 4 (.tmp 3)),oo 36 (.load false 1 (.tmp 35)),oo 37 (.mov (.tmp 6)),oo 38 (.idx 2 (.tmp 36) (.tmp 37)),ot 39 (.st 6) (.load true 2 (.tmp 38)),oo 40 (.eqs true [.s,.s] (.tmp 34) (.tmp 39))]
def Ak4:List TOp:=[oo 4 (.mov (.cst (.bool false)))]
def Ak5:List TOp:=[oo 28 (.mov (.tmp 6)),oo 29 (.bin false .add (.tmp 28) (.cst (.int .i64 1))),oo 6 (.mov (.tmp 29))]
def Agl:DC:=(.seq (.seq (.ops Ak2) (.cond (.tmp 27) .skip (.exit 0))) (.seq (.pass 1 (.seq (.draw [] Ak3) (.cond (.tmp 40) (.free (.seq (.ops Ak4) (.keep He .ret))) .skip))) (.ops Ak5)))
def Agj:Kp:=⟨[],[(2,false),(3,false),(6,false)],[(.loc 2 0,false),(.loc 3 0,false)],[],[]⟩
def Agn:Sig:=⟨[(2,some (.ptr (.loc 2 0) 0)),(3,some (.ptr (.loc 3 0) 0)),(6,some (.ty (.int .i64)))],[(.loc 2 0,(.box [none,none,none,none,none,none,none,none,none])),(.loc 3 0,(.box [none,none,none,none,none,none,none,none,none]))],[(.int .i64)],[],[]⟩
def Agk:Kp:=⟨[],[(2,false),(3,false)],[(.loc 2 0,false),(.loc 3 0,false)],[],[]⟩
def Ago:Sig:=⟨[(2,some (.ptr (.loc 2 0) 0)),(3,some (.ptr (.loc 3 0) 0))],[(.loc 2 0,(.box [none,none,none,none,none,none,none,none,none])),(.loc 3 0,(.box [none,none,none,none,none,none,none,none,none]))],[],[],[]⟩
def Agm:List TOp:=[oo 41 (.fld 0 (.tmp 2)),oo 42 (.load false 1 (.tmp 41)),oo 43 (.fld 0 (.tmp 3)),oo 44 (.load false 1 (.tmp 43)),oo 45 (.bin false .eql (.tmp 42) (.tmp 44)),oo 46 (.mov (.tmp 45)),og 47 46 true .bool (.fld 1 (.tmp 2)),og 48 46 true .bool (.load false 1 (.tmp 47)),og 49 46 true .bool (.fld 1 (.tmp 3)),og 50 46 true .bool (.load false 1 (.tmp 49)),og 51 46 true .bool (.bin false .eql (.tmp 48) (.tmp 50)),oo 52 (.pick (.tmp 46) (.tmp 51) (.cst (.bool false))),oo 53 (.mov (.tmp 52)),og 54 53 true .bool (.fld 2 (.tmp 2)),og 55 53 true .bool (.load false 1 (.tmp 54)),og 56 53 true .bool (.fld 2 (.tmp 3)),og 57 53 true .bool (.load false 1 (.tmp 56)),og 58 53 true .bool (.bin false .eql (.tmp 55) (.tmp 57)),oo 59 (.pick (.tmp 53) (.tmp 58) (.cst (.bool false))),oo 60 (.mov (.tmp 59)),og 61 60 true .bool (.fld 3 (.tmp 2)),og 62 60 true .bool (.load false 1 (.tmp 61)),og 63 60 true .bool (.fld 3 (.tmp 3)),og 64 60 true .bool (.load false 1 (.tmp 63)),og 65 60 true .bool (.bin false .eql (.tmp 62) (.tmp 64)),oo 66 (.pick (.tmp 60) (.tmp 65) (.cst (.bool false))),oo 67 (.mov (.tmp 66)),og 68 67 true .bool (.fld 6 (.tmp 2)),og 69 67 true .bool (.load false 1 (.tmp 68)),og 70 67 true .bool (.fld 6 (.tmp 3)),og 71 67 true .bool (.load false 1 (.tmp 70)),og 72 67 true .bool (.bin false .eql (.tmp 69) (.tmp 71)),oo 73 (.pick (.tmp 67) (.tmp 72) (.cst (.bool false))),oo 74 (.mov (.tmp 73)),og 75 74 true .bool (.fld 7 (.tmp 2)),og 76 74 true .bool (.load false 1 (.tmp 75)),og 77 74 true .bool (.fld 7 (.tmp 3)),og 78 74 true .bool (.load false 1 (.tmp 77)),og 79 74 true .bool (.bin false .eql (.tmp 76) (.tmp 78)),oo 80 (.pick (.tmp 74) (.tmp 79) (.cst (.bool false))),oo 81 (.mov (.tmp 80)),og 82 81 true .bool (.fld 8 (.tmp 2)),og 83 81 true .bool (.load false 1 (.tmp 82)),og 84 81 true .bool (.fld 8 (.tmp 3)),og 85 81 true .bool (.load false 1 (.tmp 84)),og 86 81 true .bool (.bin false .eql (.tmp 83) (.tmp 85)),oo 87 (.pick (.tmp 81) (.tmp 86) (.cst (.bool false))),oo 4 (.mov (.tmp 87))]
def Arf:TFd:=⟨2,[(.tmp 4,.bool)],[],(.seq (.ops Akx) (.seq (.ops Aky) (.seq (.seq (.ops Akz) (.cond (.tmp 22) (.free (.seq (.ops Ak0) (.keep He .ret))) .skip)) (.seq (.seq (.ops Ak1) (.joinO Agk Ago (.block 0 (.loop [2,3,6] [] Agj Agn Agl)))) (.seq (.ops Agm) (.keep He .ret))))))⟩
noncomputable def Og:Ent:=⟨[.ty (.st 7),.ty (.st 7)],[],[(.st 7),(.st 7)],⟨(.ty .bool),[],[],[.bool],[],[]⟩,none,fun p=>Gv p.1 p.2⟩
theorem Ai5:Og.ok Tryz.prog 25:=Au hm Tryz.func25 (fd:=Arf) (by kernel_rfl) (Ak (l:=[(11,Hb)]) (y:=[]) ⟨J2,trivial⟩ trivial) (by kernel_rfl) (fun p=>by kernel_rfl)
def Afs:List TOp:=[oo 4 (.mov (.cst (.bool false)))]
def Aft:List TOp:=[oo 7 (.mov (.tmp 0)),oo 8 (.len false (.tmp 7)),oo 9 (.mov (.tmp 1)),oo 10 (.len false (.tmp 9)),oo 11 (.bin false .neq (.tmp 8) (.tmp 10))]
def Afu:List TOp:=[oo 4 (.mov (.cst (.bool false)))]
def Gz:Kp:=⟨[],[(4,false)],[],[],[]⟩
def Afv:List TOp:=[oo 5 (.mov (.cst (.int .i64 0)))]
def Afw:List TOp:=[oo 12 (.mov (.tmp 5)),oo 13 (.mov (.tmp 0)),oo 14 (.len false (.tmp 13)),oo 15 (.bin false .lss (.tmp 12) (.tmp 14))]
def Afx:List TOp:=[oo 18 (.mov (.tmp 0)),oo 19 (.mov (.tmp 5)),oo 20 (.idx 9 (.tmp 18) (.tmp 19)),ot 21 (.st 7) (.load true 9 (.tmp 20)),oo 22 (.mov (.tmp 1)),oo 23 (.mov (.tmp 5)),oo 24 (.idx 9 (.tmp 22) (.tmp 23)),ot 25 (.st 7) (.load true 9 (.tmp 24)),oo 26 (.call 0 0 (.cst (.fn 25)) [(.tmp 21),(.tmp 25)] [] []),oo 6 (.mov (.tmp 26))]
def Afy:List TOp:=[oo 27 (.mov (.tmp 6)),oo 28 (.un .not (.tmp 27))]
def Afz:List TOp:=[oo 4 (.mov (.cst (.bool false)))]
def Af0:List TOp:=[oo 16 (.mov (.tmp 5)),oo 17 (.bin false .add (.tmp 16) (.cst (.int .i64 1))),oo 5 (.mov (.tmp 17))]
def Aaw:DC:=(.seq (.seq (.ops Afw) (.cond (.tmp 15) .skip (.exit 0))) (.seq (.pass 1 (.seq (.draw [] Afx) (.seq (.ops Afy) (.cond (.tmp 28) (.free (.seq (.ops Afz) (.keep Gz .ret))) .skip)))) (.ops Af0)))
def Aau:Kp:=⟨[],[(0,false),(1,false),(5,false)],[],[],[]⟩
def Aay:Sig:=⟨[(0,none),(1,none),(5,some (.ty (.int .i64)))],[],[(.int .i64)],[],[]⟩
def Aav:Kp:=⟨[],[],[],[],[]⟩
def Aaz:Sig:=⟨[],[],[],[],[]⟩
def Aax:List TOp:=[oo 4 (.mov (.cst (.bool true)))]
def Aoj:TFd:=⟨2,[(.tmp 4,.bool)],[],(.seq (.ops Afs) (.seq (.seq (.ops Aft) (.cond (.tmp 11) (.free (.seq (.ops Afu) (.keep Gz .ret))) .skip)) (.seq (.seq (.ops Afv) (.joinO Aav Aaz (.block 0 (.loop [0,1,5] [] Aau Aay Aaw)))) (.seq (.ops Aax) (.keep Gz .ret)))))⟩
noncomputable def Lw:Ent:=⟨[.ty (.sl (.st 7)),.ty (.sl (.st 7))],[],[(.sl (.st 7)),(.sl (.st 7))],⟨(.ty .bool),[],[],[.bool],[],[]⟩,none,fun p=>Fw p.1 p.2⟩
theorem Ad0:Lw.ok Tryz.prog 14:=Au hm Tryz.func14 (fd:=Aoj) (by kernel_rfl) (Ak (l:=[(25,Og)]) (y:=[]) ⟨Ai5,trivial⟩ trivial) (by kernel_rfl) (fun p=>by kernel_rfl)
def Ma:List TOp:=[oo 2 (.mov (.cst (.bool false)))]
def Mb:List TOp:=[oo 12 (.mov (.tmp 0)),oo 13 (.len true (.tmp 12)),oo 14 (.bin false .gtr (.tmp 13) (.cst (.int .i64 9000)))]
def Mc:List TOp:=[oo 15 (.call 0 0 (.cst (.fn 8)) [] [] []),oo 2 (.mov (.tmp 15))]
def Ga:Kp:=⟨[],[(2,false)],[],[],[]⟩
def Md:List TOp:=[oo 17 (.mov (.tmp 0)),oo 18 (.call 0 0 (.cst (.fn 12)) [(.tmp 17)] [] []),oo 16 (.mov (.tmp 18)),oo 19 (.ext 0 (.tmp 16)),oo 20 (.ext 1 (.tmp 16)),oo 21 (.ext 2 (.tmp 16)),oo 22 (.ext 3 (.tmp 16)),oo 3 (.mov (.tmp 19)),oo 4 (.mov (.tmp 20)),oo 5 (.mov (.tmp 21)),oo 6 (.mov (.tmp 22))]
def Me:List TOp:=[oo 24 (.mov (.tmp 0)),oo 25 (.call 0 0 (.cst (.fn 13)) [(.tmp 24)] [] []),oo 23 (.mov (.tmp 25)),oo 26 (.ext 0 (.tmp 23)),oo 27 (.ext 1 (.tmp 23)),oo 28 (.ext 2 (.tmp 23)),oo 29 (.ext 3 (.tmp 23)),oo 7 (.mov (.tmp 26)),oo 8 (.mov (.tmp 27)),oo 9 (.mov (.tmp 28)),oo 10 (.mov (.tmp 29))]
def Mf:List TOp:=[oo 30 (.mov (.tmp 3)),oo 31 (.mov (.tmp 7)),oo 32 (.call 0 0 (.cst (.fn 14)) [(.tmp 30),(.tmp 31)] [] []),oo 11 (.mov (.tmp 32))]
def Mg:List TOp:=[oo 33 (.call 0 0 (.cst (.fn 8)) [] [] []),oo 34 (.mov (.tmp 33)),og 35 34 true .bool (.mov (.tmp 11)),oo 36 (.pick (.tmp 34) (.tmp 35) (.cst (.bool false))),oo 37 (.mov (.tmp 36)),og 38 37 true .bool (.mov (.tmp 4)),og 39 37 true .bool (.mov (.tmp 8)),og 40 37 true .bool (.bin false .eql (.tmp 38) (.tmp 39)),oo 41 (.pick (.tmp 37) (.tmp 40) (.cst (.bool false))),oo 42 (.mov (.tmp 41)),og 43 42 true .bool (.mov (.tmp 5)),og 44 42 true .bool (.mov (.tmp 9)),og 45 42 true .bool (.bin false .eql (.tmp 43) (.tmp 44)),oo 46 (.pick (.tmp 42) (.tmp 45) (.cst (.bool false))),oo 47 (.mov (.tmp 46)),og 48 47 true .bool (.mov (.tmp 6)),og 49 47 true .bool (.mov (.tmp 10)),og 50 47 true .bool (.bin false .eql (.tmp 48) (.tmp 49)),oo 51 (.pick (.tmp 47) (.tmp 50) (.cst (.bool false))),oo 2 (.mov (.tmp 51))]
def Qd:TFd:=⟨1,[(.tmp 2,.bool)],[],(.seq (.ops Ma) (.seq (.seq (.ops Mb) (.cond (.tmp 14) (.free (.seq (.ops Mc) (.keep Ga .ret))) .skip)) (.seq (.ops Md) (.seq (.ops Me) (.seq (.ops Mf) (.seq (.ops Mg) (.keep Ga .ret)))))))⟩
noncomputable def Oc:Ent:=⟨[.ty .str],[],[.str],⟨(.ty .bool),[],[],[.bool],[],[]⟩,none,fun p=>Cz p⟩
theorem L4:Oc.ok Tryz.prog 4:=Au hm Tryz.func4 (fd:=Qd) (by kernel_rfl) (Ak (l:=[(8,Ls),(12,Anm),(13,Qp),(14,Lw)]) (y:=[]) ⟨Ady,Av3,Amq,Ad0,trivial⟩ trivial) (by kernel_rfl) (fun p=>by kernel_rfl)
end Go.Av.G
end
section
set_option maxRecDepth 100000
set_option maxHeartbeats 8000000
namespace Go.Av.G
open Go Go.Av Go.Proofs
end Go.Av.G
end
section
set_option maxHeartbeats 8000000
set_option maxRecDepth 100000
namespace Go.Av.G
open Go Go.Av Go.Proofs
abbrev Nd:=Aa
abbrev Tk:=Ad
abbrev By:=List UInt8
def sIf:By:=[105,102]
def As5:By:=[116,104,101,110]
def Apx:By:=[101,108,115,101]
def Bis:By:=[97,110,100]
def sOr:By:=[111,114]
def Apy:By:=[110,111,116]
def Amf:By:=[109,105,110]
def A05:By:=[109,97,120]
def isT(s:By)(ts:List Tk):Bool:=match ts with
 |[]=>false
 |t::_=>decide (t.Ag≠2∧t.Aj=s)
def Au2(s:By):Int×Nat:=
 if s=sOr then(13,1) else if s=Bis then(12,2) else if s=[60] then(7,4) else if s=[60,61] then(8,4)
 else if s=[61] then(9,4) else if s=[62] then(10,4) else if s=[62,61] then(11,4)
 else if s=[43] then(3,5) else if s=[45] then(4,5) else if s=[42] then(5,6) else if s=[47] then(6,6) else(0,0)
def Bj(t:Tk):Int×Nat:=if t.Ag=2 then(0,0) else Au2 t.Aj
def Bx1:List By:=[sIf,As5,Apx,Bis,sOr,Apy,Amf,A05]
def Bx2:List By:=[[112,114,111,100,117,99,116],[98,97,115,105,115],[112,101,114,105,111,100],[116,105,101,114,115],[102,101,101],[109,105,110,105,109,117,109],[111,118,101,114,100,114,97,102,116],[110,111,116,105,99,101]]
def Av1(s:By)(p:Bool):Bool:=Bx1.contains s||(p&&Bx2.contains s)
abbrev Rs(α:Type):=Option α×List Tk
def bnd{α β:Type}(r:Rs α)(k:α→List Tk→Rs β):Rs β:=match r with
 |(some a,i)=>k a i
 |(none,i)=>(none,i)
def H7{β:Type}(s:By)(ts:List Tk)(k:List Tk→Rs β):Rs β:=if isT s ts=true then k ts.tail else(none,ts)
abbrev A1k:=List Tk→Nat→Rs (List Nd)
def Dq(rec:A1k)(ts:List Tk):Rs (List Nd):=match ts with
 |[]=>(none,[])
 |t::r=>
  if isT [40] (t::r)=true then bnd (rec r 0) fun a i=>H7 [41] i fun j=>(some a,j)
  else if (isT Amf (t::r)||isT A05 (t::r))=true then
   H7 [40] r fun r2=>bnd (rec r2 0) fun a i=>H7 [44] i fun i2=>bnd (rec i2 0) fun b j=>H7 [41] j fun j2=>
    (some (⟨if t.Aj=Amf then 16 else 17,[]⟩::(a++b)),j2)
  else if t.Ag=1 then
   if isT [37] r=true then(some [⟨0,t.Aj++[37]⟩],r.tail) else(some [⟨0,t.Aj⟩],r)
  else if t.Ag=0∧Av1 t.Aj false=false then(some [⟨1,t.Aj⟩],r)
  else(none,t::r)
def Ce(rec:A1k)(ts:List Tk)(n:Nat):Rs (List Nd×Nat):=
 if n=0∧isT sIf ts=true then
  bnd (rec ts.tail 0) fun a i=>H7 As5 i fun i2=>bnd (rec i2 0) fun b j=>H7 Apx j fun j2=>bnd (rec j2 0) fun c k=>
   (some (⟨15,[]⟩::(a++b++c),0),k)
 else if n≤3∧isT Apy ts=true then bnd (rec ts.tail 3) fun a i=>(some (⟨14,[]⟩::a,3),i)
 else if isT [45] ts=true then bnd (rec ts.tail 7) fun a i=>(some (⟨2,[]⟩::a,7),i)
 else bnd (Dq rec ts) fun a i=>(some (a,8),i)
def Ul(m:Nat):Nat:=if m=4 then 5 else m
def C7(rec:A1k)(n:Nat):Nat→List Nd→Nat→List Tk→Rs (List Nd×Nat)
 |_,out,own,[]=>(some (out,own),[])
 |0,out,own,t::r=>(some (out,own),t::r)
 |f+1,out,own,t::r=>
  if (Bj t).2=0∨(Bj t).2<n∨own<Ul (Bj t).2 then(some (out,own),t::r)
  else bnd (rec r ((Bj t).2+1)) fun b j=>C7 rec n f (⟨(Bj t).1,[]⟩::(out++b)) (Bj t).2 j
def J4:Nat→A1k
 |0,ts,n=>(none,ts)
 |f+1,ts,n=>bnd (Ce (J4 f) ts n) fun x i=>bnd (C7 (J4 f) n i.length x.1 x.2 i) fun y j=>(some y.1,j)
def CL(ts:List Tk)(n:Nat):Rs (List Nd):=J4 (ts.length+1) ts n
theorem I0{α β:Type}{r:Rs α}{k:α→List Tk→Rs β}{ts:List Tk}(h:r.2 <:+ ts)(hk: ∀a i,i <:+ ts→(k a i).2 <:+ ts):(bnd r k).2 <:+ ts:=by
 obtain⟨o,i⟩:=r
 cases o with
 |none=>exact h
 |some a=>exact hk a i h
theorem Ui{ts:List Tk}:ts.tail <:+ ts:=List.tail_suffix ts
theorem Adn{β:Type}{s:By}{ts:List Tk}{k:List Tk→Rs β}{u:List Tk}(h:ts <:+ u)(hk: ∀i,i <:+ u→(k i).2 <:+ u):(H7 s ts k).2 <:+ u:=by
 unfold H7
 split
 ·exact hk _ (Ui.trans h)
 ·exact h
theorem Btp{rec:A1k}(hr: ∀ts n,(rec ts n).2 <:+ ts)(ts:List Tk):(Dq rec ts).2 <:+ ts:=by
 cases ts with
 |nil=>exact List.suffix_refl _
 |cons t r=>
  have hc:r <:+ t::r:=List.suffix_cons t r
  unfold Dq
  simp only
  split
  ·exact I0 ((hr _ _).trans hc) fun a i hi=>Adn hi fun j hj=>hj
  ·split
   ·exact Adn hc fun r2 h2=>I0 ((hr _ _).trans h2) fun a i hi=>Adn hi fun i2 hi2=>I0 ((hr _ _).trans hi2) fun b j hj=>Adn hj fun j2 hj2=>hj2
   ·split
    ·split
     ·exact Ui.trans hc
     ·exact hc
    ·split
     ·exact hc
     ·exact List.suffix_refl _
theorem Aqg{rec:A1k}(hr: ∀ts n,(rec ts n).2 <:+ ts)(ts:List Tk)(n:Nat):(Ce rec ts n).2 <:+ ts:=by
 unfold Ce
 split
 ·exact I0 ((hr _ _).trans Ui) fun a i hi=>Adn hi fun i2 hi2=>I0 ((hr _ _).trans hi2) fun b j hj=>Adn hj fun j2 hj2=>I0 ((hr _ _).trans hj2) fun c k hk=>hk
 ·split
  ·exact I0 ((hr _ _).trans Ui) fun a i hi=>hi
  ·split
   ·exact I0 ((hr _ _).trans Ui) fun a i hi=>hi
   ·exact I0 (Btp hr ts) fun a i hi=>hi
theorem A2m{rec:A1k}(hr: ∀ts n,(rec ts n).2 <:+ ts)(n:Nat): ∀(f:Nat) (out:List Nd) (own:Nat) (ts:List Tk),(C7 rec n f out own ts).2 <:+ ts
 |f,out,own,[]=>by cases f<;>exact List.suffix_refl _
 |0,out,own,t::r=>List.suffix_refl _
 |f+1,out,own,t::r=>by
  unfold C7
  split
  ·exact List.suffix_refl _
  ·exact I0 ((hr _ _).trans (List.suffix_cons t r)) fun b j hj=>(A2m hr n f _ _ j).trans hj
theorem H8: ∀(f:Nat) (ts:List Tk) (n:Nat),(J4 f ts n).2 <:+ ts
 |0,ts,n=>List.suffix_refl _
 |f+1,ts,n=>by
  unfold J4
  exact I0 (Aqg (H8 f) ts n) fun x i hi=>I0 ((A2m (H8 f) n _ _ _ _).trans hi) fun y j hj=>hj
def Lt{α:Type}(r:Rs α)(n:Nat):Prop:=r.1≠none→r.2.length<n
theorem Adw{α β:Type}{r:Rs α}{k:α→List Tk→Rs β}{n:Nat}(hk: ∀a,r.1=some a→Lt (k a r.2) n):Lt (bnd r k) n:=by
 obtain⟨o,i⟩:=r
 cases o with
 |none=>intro h;exact absurd rfl h
 |some a=>exact hk a rfl
theorem Aqx{β:Type}{s:By}{ts:List Tk}{k:List Tk→Rs β}{n:Nat}(hk:Lt (k ts.tail) n):Lt (H7 s ts k) n:=by
 unfold H7
 split
 ·exact hk
 ·intro h;exact absurd rfl h
theorem R9{α:Type}{a:α}{i:List Tk}{n:Nat}(h:i.length<n):Lt ((some a,i):Rs α) n:=fun _=>h
theorem Bof{α:Type}{i:List Tk}{n:Nat}:Lt ((none,i):Rs α) n:=fun h=>absurd rfl h
def Agree(f g:A1k)(n:Nat):Prop:= ∀ts k,ts.length<n→f ts k=g ts k
theorem Bi{α β:Type}{r r':Rs α}{k k':α→List Tk→Rs β}(h:r=r')(hk: ∀a,r.1=some a→k a r.2=k' a r.2):bnd r k=bnd r' k':=by
 subst h
 obtain⟨o,i⟩:=r
 cases o with
 |none=>rfl
 |some a=>exact hk a rfl
theorem Kb{s:By}{ts:List Tk}(h:isT s ts=true):ts.tail.length+1=ts.length:=by
 cases ts with
 |nil=>cases h
 |cons t r=>rfl
theorem Aix{β:Type}{s:By}{ts:List Tk}{k k':List Tk→Rs β}(hk:isT s ts=true→k ts.tail=k' ts.tail):H7 s ts k=H7 s ts k':=by
 unfold H7
 split
 ·exact hk (by assumption)
 ·rfl
theorem Bma{f g:A1k}(hr: ∀ts n,(f ts n).2 <:+ ts){ts:List Tk}(h:Agree f g ts.length):Dq f ts=Dq g ts:=by
 cases ts with
 |nil=>rfl
 |cons t r=>
  unfold Dq
  simp only
  have hl: ∀i:List Tk,i.length≤r.length→ ∀k,f i k=g i k:=fun i hi k=>h i k (by simp;omega)
  split
  ·exact Bi (hl _ (Nat.le_refl _) _) fun a ha=>rfl
  ·split
   ·refine Aix fun hw=>?_
    have hw:=Kb hw
    refine Bi (hl _ (by omega) _) fun a ha=>?_
    have hf:=(hr r.tail 0).length_le
    refine Aix fun hw2=>?_
    have hw2:=Kb hw2
    exact Bi (hl _ (by omega) _) fun b hb=>rfl
   ·rfl
theorem Ay1{f g:A1k}(hr: ∀ts n,(f ts n).2 <:+ ts){ts:List Tk}(n:Nat)(h:Agree f g ts.length):Ce f ts n=Ce g ts n:=by
 unfold Ce
 have hl: ∀i:List Tk,i.length<ts.length→ ∀k,f i k=g i k:=fun i hi k=>h i k hi
 split
 ·rename_i hw
  have hw:=Kb hw.2
  refine Bi (hl _ (by omega) _) fun a ha=>?_
  have h1:=(hr ts.tail 0).length_le
  refine Aix fun hw2=>?_
  have hw2:=Kb hw2
  refine Bi (hl _ (by omega) _) fun b hb=>?_
  have h2:=(hr (f ts.tail 0).2.tail 0).length_le
  refine Aix fun hw3=>?_
  have hw3:=Kb hw3
  exact Bi (hl _ (by omega) _) fun c hc=>rfl
 ·split
  ·rename_i hw
   have hw:=Kb hw.2
   exact Bi (hl _ (by omega) _) fun a ha=>rfl
  ·split
   ·rename_i hw
    have hw:=Kb hw
    exact Bi (hl _ (by omega) _) fun a ha=>rfl
   ·exact Bi (Bma hr h) fun a ha=>rfl
theorem Aeb{f g:A1k}(hr: ∀ts n,(f ts n).2 <:+ ts)(n:Nat): ∀(a b:Nat) (out:List Nd) (own:Nat) (ts:List Tk),Agree f g ts.length→ts.length≤a→ts.length≤b→C7 f n a out own ts=C7 g n b out own ts
 |a,b,out,own,[],_,_,_=>by cases a<;>cases b<;>rfl
 |0,_,out,own,t::r,_,h,_=>absurd h (by simp)
 |_,0,out,own,t::r,_,_,h=>absurd h (by simp)
 |a+1,b+1,out,own,t::r,h,ha,hb=>by
  unfold C7
  split
  ·rfl
  ·have h1:=(hr r ((Bj t).2+1)).length_le
   simp only[List.length_cons] at ha hb
   exact Bi (h _ _ (by simp)) fun x hx=>Aeb hr n a b _ _ _ (fun i k hi=>h i k (by simp;omega)) (by omega) (by omega)
theorem Ayu: ∀(f g:Nat) (ts:List Tk) (n:Nat),ts.length<f→ts.length<g→J4 f ts n=J4 g ts n
 |0,_,ts,n,h,_=>absurd h (by simp)
 |_,0,ts,n,_,h=>absurd h (by simp)
 |f+1,g+1,ts,n,hf,hg=>by
  unfold J4
  have hag:Agree (J4 f) (J4 g) ts.length:=fun i k hi=>Ayu f g i k (by omega) (by omega)
  refine Bi (Ay1 (H8 f) n hag) fun x hx=>?_
  have hs:=(Aqg (H8 f) ts n).length_le
  exact Bi (Aeb (H8 f) n _ _ _ _ _ (fun i k hi=>hag i k (by omega)) (Nat.le_refl _) (Nat.le_refl _)) fun y hy=>rfl
theorem Bye{f:Nat}{ts:List Tk}(h:ts.length<f)(n:Nat):J4 f ts n=CL ts n:=Ayu _ _ _ _ h (by omega)
theorem F4(ts:List Tk)(n:Nat):(CL ts n).2 <:+ ts:=H8 _ _ _
theorem Ase(ts:List Tk)(n:Nat):CL ts n=bnd (Ce CL ts n) fun x i=>bnd (C7 CL n i.length x.1 x.2 i) fun y j=>(some y.1,j):=by
 have hag:Agree (J4 ts.length) CL ts.length:=fun i k hi=>Bye hi k
 show J4 (ts.length+1) ts n=_
 unfold J4
 refine Bi (Ay1 (H8 _) n hag) fun x hx=>?_
 have hs:=(Aqg (H8 ts.length) ts n).length_le
 exact Bi (Aeb (H8 _) n _ _ _ _ _ (fun i k hi=>hag i k (by omega)) (Nat.le_refl _) (Nat.le_refl _)) fun y hy=>rfl
theorem Bv0(ts:List Tk):Lt (Dq CL ts) ts.length:=by
 cases ts with
 |nil=>exact Bof
 |cons t r=>
  have hs:=fun i k=>(F4 i k).length_le
  have ht: ∀i:List Tk,i.tail.length≤i.length:=fun i=>by simp
  unfold Dq
  simp only[List.length_cons]
  split
  ·refine Adw fun a ha=>Aqx (R9 ?_)
   have:=hs r 0;have:=ht (CL r 0).2
   omega
  ·split
   ·refine Aqx (Adw fun a ha=>Aqx (Adw fun b hb=>Aqx (R9 ?_)))
    have:=ht r;have:=hs r.tail 0;have:=ht (CL r.tail 0).2;have:=hs (CL r.tail 0).2.tail 0;have:=ht (CL (CL r.tail 0).2.tail 0).2
    omega
   ·split
    ·split
     ·refine R9 ?_
      have:=ht r
      omega
     ·exact R9 (by omega)
    ·split
     ·exact R9 (by omega)
     ·exact Bof
theorem Bfy(ts:List Tk)(n:Nat):Lt (Ce CL ts n) ts.length:=by
 have hs:=fun i k=>(F4 i k).length_le
 have ht: ∀i:List Tk,i.tail.length≤i.length:=fun i=>by simp
 unfold Ce
 split
 ·rename_i hw
  have hw:=Kb hw.2
  refine Adw fun a ha=>Aqx (Adw fun b hb=>Aqx (Adw fun c hc=>R9 ?_))
  have:=hs ts.tail 0;have:=ht (CL ts.tail 0).2;have:=hs (CL ts.tail 0).2.tail 0;have:=ht (CL (CL ts.tail 0).2.tail 0).2;have:=hs (CL (CL ts.tail 0).2.tail 0).2.tail 0
  omega
 ·split
  ·rename_i hw
   have hw:=Kb hw.2
   refine Adw fun a ha=>R9 ?_
   have:=hs ts.tail 3
   omega
  ·split
   ·rename_i hw
    have hw:=Kb hw
    refine Adw fun a ha=>R9 ?_
    have:=hs ts.tail 7
    omega
   ·refine Adw fun a ha=>R9 ?_
    exact Bv0 ts (by rw[ha];simp)
theorem Bw7(n:Nat):CL [] n=(none,[]):=by
 rw[Ase]
 simp[Ce,isT,Dq,bnd]
theorem Bwf(s:By):(Au2 s).2=0∨(Au2 s).2=1∨(Au2 s).2=2∨(Au2 s).2=4∨(Au2 s).2=5∨(Au2 s).2=6:=by
 unfold Au2
 repeat' split
 all_goals simp
theorem R8(t:Tk):(Bj t).2=0∨(Bj t).2=1∨(Bj t).2=2∨(Bj t).2=4∨(Bj t).2=5∨(Bj t).2=6:=by
 unfold Bj
 split
 ·exact Or.inl rfl
 ·exact Bwf _
theorem Iz{α β γ:Type}(r:Rs α)(k:α→List Tk→Rs β)(g:β→List Tk→Rs γ):bnd (bnd r k) g=bnd r fun a i=>bnd (k a i) g:=by
 obtain⟨o,i⟩:=r
 cases o<;>rfl
theorem Bvb{α:Type}(r:Rs α):bnd r (fun a i=>(some a,i))=r:=by
 obtain⟨o,i⟩:=r
 cases o<;>rfl
def Aja(n:Nat):Nat→List Nd→List Tk→Rs (List Nd)
 |_,out,[]=>(some out,[])
 |0,out,t::r=>(some out,t::r)
 |f+1,out,t::r=>if (Bj t).2=n then bnd (CL r (n+1)) fun b j=>if n=4 then(some (⟨(Bj t).1,[]⟩::(out++b)),j) else Aja n f (⟨(Bj t).1,[]⟩::(out++b)) j else(some out,t::r)
theorem A9q(n:Nat){a b:Nat}(out:List Nd)(own:Nat){ts:List Tk}(ha:ts.length≤a)(hb:ts.length≤b):C7 CL n a out own ts=C7 CL n b out own ts:=
 Aeb F4 n a b out own ts (fun i k hi=>rfl) ha hb
theorem E1{n f:Nat}{out:List Nd}{own:Nat}{t:Tk}{r:List Tk}(h:(Bj t).2=0∨(Bj t).2<n∨own<Ul (Bj t).2):C7 CL n f out own (t::r)=(some (out,own),t::r):=by
 cases f with
 |zero=>rfl
 |succ f=>unfold C7;rw[if_pos h]
theorem Kd{n f:Nat}{out:List Nd}{own:Nat}{t:Tk}{r:List Tk}(h: ¬((Bj t).2=0∨(Bj t).2<n∨own<Ul (Bj t).2)):C7 CL n (f+1) out own (t::r)=bnd (CL r ((Bj t).2+1)) fun b j=>C7 CL n f (⟨(Bj t).1,[]⟩::(out++b)) (Bj t).2 j:=by
 rw[C7,if_neg h]
def Bws(n own:Nat)(ts:List Tk):Prop:=match ts with
 |[]=>True
 |t::_=>(Bj t).2=0∨(Bj t).2<n∨own<Ul (Bj t).2
theorem A2o(n:Nat): ∀(f:Nat) (out:List Nd) (own:Nat) (ts:List Tk),ts.length≤f→ ∀x j,C7 CL n f out own ts=(some x,j)→Bws n x.2 j∧(n≤own→n≤x.2)
 |f,out,own,[],_,x,j,h=>by
  have:C7 CL n f out own []=(some (out,own),[]):=by cases f<;>rfl
  rw[this] at h
  cases h
  exact⟨trivial,id⟩
 |0,out,own,t::r,hf,x,j,h=>absurd hf (by simp)
 |f+1,out,own,t::r,hf,x,j,h=>by
  simp only[List.length_cons] at hf
  by_cases hs:(Bj t).2=0∨(Bj t).2<n∨own<Ul (Bj t).2
  ·rw[E1 hs] at h
   cases h
   exact⟨hs,id⟩
  ·rw[Kd hs] at h
   have hl:=(F4 r ((Bj t).2+1)).length_le
   cases hc:CL r ((Bj t).2+1) with
   |mk o i=>
    rw[hc] at h hl
    cases o with
    |none=>cases h
    |some b=>
     obtain⟨h1,h2⟩:=A2o n f _ _ i (by simp at hl;omega) x j h
     exact⟨h1,fun _=>h2 (by omega)⟩
theorem A2n{n m:Nat}(hnm:n≤m): ∀(k f:Nat) (out:List Nd) (own:Nat) (ts:List Tk),ts.length≤f→ts.length≤k→C7 CL n f out own ts=bnd (C7 CL m f out own ts) fun x j=>C7 CL n k x.1 x.2 j
 |k,f,out,own,[],_,_=>by cases f<;>cases k<;>rfl
 |k,0,out,own,t::r,hf,_=>absurd hf (by simp)
 |0,f,out,own,t::r,_,hk=>absurd hk (by simp)
 |k+1,f+1,out,own,t::r,hf,hk=>by
  by_cases hs:(Bj t).2=0∨(Bj t).2<m∨own<Ul (Bj t).2
  ·rw[E1 hs (n:=m)]
   exact A9q n out own hf hk
  ·rw[Kd hs,Kd (by omega),Iz]
   simp only[List.length_cons] at hf hk
   refine Bi rfl fun b hb=>?_
   have hl:=(F4 r ((Bj t).2+1)).length_le
   rw[A2n hnm (k+1) f _ _ _ (by omega) (by omega)]
theorem Bgm{n:Nat}(hn:n=1∨n=2∨n=5∨n=6): ∀(f:Nat) (out:List Nd) (ts:List Tk),ts.length≤f→(bnd (C7 CL n f out n ts) fun y j=>(some y.1,j))=Aja n f out ts
 |f,out,[],_=>by cases f<;>rfl
 |0,out,t::r,hf=>absurd hf (by simp)
 |f+1,out,t::r,hf=>by
  simp only[List.length_cons] at hf
  have hd:=R8 t
  by_cases hs:(Bj t).2=n
  ·rw[Kd (by unfold Ul;rw[hs,if_neg (by omega)];omega),Iz,Aja,if_pos hs,hs]
   refine Bi rfl fun b hb=>?_
   have hl:=(F4 r (n+1)).length_le
   rw[Bgm hn f _ _ (by omega),if_neg (by omega)]
  ·rw[E1 (by unfold Ul;split<;>omega),Aja,if_neg hs]
   rfl
theorem Bpw{f:Nat}{out:List Nd}{ts:List Tk}:C7 CL 4 f out 4 ts=(some (out,4),ts):=by
 cases ts with
 |nil=>cases f<;>rfl
 |cons t r=>
  have hd:=R8 t
  exact E1 (by unfold Ul;split<;>omega)
theorem Bpx{n:Nat}(hn:n=1∨n=2∨n=4∨n=5∨n=6){f:Nat}{out:List Nd}{own:Nat}{ts:List Tk}(hf:ts.length≤f)(hs:Bws (n+1) own ts)(ho:n+1≤own):(bnd (C7 CL n f out own ts) fun y j=>(some y.1,j))=Aja n f out ts:=by
 cases ts with
 |nil=>cases f<;>rfl
 |cons t r=>
  cases f with
  |zero=>exact absurd hf (by simp)
  |succ f=>
   simp only[List.length_cons] at hf
   have hd:=R8 t
   have hs:(Bj t).2=0∨(Bj t).2<n+1∨own<Ul (Bj t).2:=hs
   by_cases he:(Bj t).2=n
   ·rw[Kd (by rw[he];unfold Ul;split<;>omega),Iz,Aja,if_pos he,he]
    refine Bi rfl fun b hb=>?_
    have hl:=(F4 r (n+1)).length_le
    by_cases h4:n=4
    ·subst h4
     rw[Bpw,if_pos rfl]
     rfl
    ·rw[Bgm (by omega) f _ _ (by omega),if_neg h4]
   ·rw[E1 (by omega),Aja,if_neg he]
    rfl
theorem Jg{n:Nat}(hn:n≠0)(ts:List Tk):Ce CL ts n=if n≤3∧isT Apy ts=true then bnd (CL ts.tail 3) fun a i=>(some (⟨14,[]⟩::a,3),i)
 else if isT [45] ts=true then bnd (CL ts.tail 7) fun a i=>(some (⟨2,[]⟩::a,7),i)
 else bnd (Dq CL ts) fun a i=>(some (a,8),i):=by
 unfold Ce
 rw[if_neg (fun c=>hn c.1)]
theorem Bko{n:Nat}(hn:n=1∨n=2∨n=4∨n=5∨n=6)(ts:List Tk):Ce CL ts n=Ce CL ts (n+1):=by
 rw[Jg (by omega),Jg (by omega)]
 by_cases h:isT Apy ts=true
 ·have hd:(n≤3∧isT Apy ts=true)↔(n+1≤3∧isT Apy ts=true):=⟨fun c=>⟨by have:=c.1;omega,h⟩,fun c=>⟨by have:=c.1;omega,h⟩⟩
  simp only[hd]
 ·simp only[h,and_false,if_false,Bool.false_eq_true]
theorem Bpo{n:Nat}(hn:1≤n)(h7:n≤7)(ts:List Tk): ∀x j,Ce CL ts n=(some x,j)→n≤x.2:=by
 intro x j h
 rw[Jg (by omega)] at h
 split at h
 ·rename_i h3
  cases hc:CL ts.tail 3 with
  |mk o i=>cases o with
   |none=>rw[hc] at h;cases h
   |some a=>rw[hc] at h;cases h;exact h3.1
 ·split at h
  ·cases hc:CL ts.tail 7 with
   |mk o i=>cases o with
    |none=>rw[hc] at h;cases h
    |some a=>rw[hc] at h;cases h;exact h7
  ·cases hc:Dq CL ts with
   |mk o i=>cases o with
    |none=>rw[hc] at h;cases h
    |some a=>rw[hc] at h;cases h;show n≤8;omega
theorem Bw6{n:Nat}(hn:n=1∨n=2∨n=4∨n=5∨n=6)(ts:List Tk):CL ts n=bnd (CL ts (n+1)) fun out i=>Aja n i.length out i:=by
 rw[Ase ts n,Ase ts (n+1),Bko hn,Iz]
 refine Bi rfl fun x hx=>?_
 generalize hi:(Ce CL ts (n+1)).2=i
 have hown:=Bpo (n:=n+1) (by omega) (by omega) ts x i (by rw[←hi,←hx])
 rw[A2n (Nat.le_succ n) i.length i.length x.1 x.2 i (Nat.le_refl _) (Nat.le_refl _),Iz,Iz]
 refine Bi rfl fun y hy=>?_
 generalize hj:(C7 CL (n+1) i.length x.1 x.2 i).2=j
 obtain⟨h1,h2⟩:=A2o (n+1) i.length x.1 x.2 i (Nat.le_refl _) y j (by rw[←hj,←hy])
 have hl:=(A2m F4 (n+1) i.length x.1 x.2 i).length_le
 rw[hj] at hl
 show _=Aja n j.length y.1 j
 rw[A9q n y.1 y.2 hl (Nat.le_refl j.length)]
 exact Bpx hn (Nat.le_refl _) h1 (h2 hown)
theorem Aql{n f:Nat}{out:List Nd}{own:Nat}{ts:List Tk}(h: ∀t r,ts=t::r→(Bj t).2=0∨(Bj t).2<n∨own<Ul (Bj t).2):C7 CL n f out own ts=(some (out,own),ts):=by
 cases ts with
 |nil=>cases f<;>rfl
 |cons t r=>exact E1 (h t r rfl)
theorem Bu1(ts:List Tk):CL ts 0=if isT sIf ts=true then
   bnd (CL ts.tail 0) fun a i=>H7 As5 i fun i2=>bnd (CL i2 0) fun b j=>H7 Apx j fun j2=>bnd (CL j2 0) fun c k=>(some (⟨15,[]⟩::(a++b++c)),k)
  else CL ts 1:=by
 rw[Ase ts 0]
 by_cases h:isT sIf ts=true
 ·rw[if_pos h]
  unfold Ce
  rw[if_pos ⟨rfl,h⟩,Iz]
  refine Bi rfl fun a ha=>?_
  unfold H7
  split
  ·rw[Iz]
   refine Bi rfl fun b hb=>?_
   split
   ·rw[Iz]
    refine Bi rfl fun c hc=>?_
    show bnd (C7 CL 0 _ _ 0 _) _=_
    rw[Aql (fun t r he=>by have:=R8 t;unfold Ul;split<;>omega)]
    rfl
   ·rfl
  ·rfl
 ·rw[if_neg h,Ase ts 1]
  have hf:Ce CL ts 0=Ce CL ts 1:=by
   rw[Jg (n:=1) (by omega)]
   unfold Ce
   rw[if_neg (fun c=>h c.2)]
   simp
  rw[hf]
  refine Bi rfl fun x hx=>?_
  generalize (Ce CL ts 1).2=i
  have key: ∀(f:Nat) (out:List Nd) (own:Nat) (ts:List Tk),C7 CL 0 f out own ts=C7 CL 1 f out own ts:=by
   intro f
   induction f with
   |zero=>intro out own ts;cases ts<;>rfl
   |succ f ih=>
    intro out own ts
    cases ts with
    |nil=>rfl
    |cons t r=>
     by_cases hs:(Bj t).2=0∨(Bj t).2<0∨own<Ul (Bj t).2
     ·rw[E1 hs,E1 (by omega)]
     ·rw[Kd hs,Kd (by omega)]
      exact Bi rfl fun b hb=>ih _ _ _
  rw[key]
theorem Bq8(ts:List Tk):CL ts 3=if isT Apy ts=true then bnd (CL ts.tail 3) fun a i=>(some (⟨14,[]⟩::a),i) else CL ts 4:=by
 rw[Ase ts 3]
 by_cases h:isT Apy ts=true
 ·rw[if_pos h]
  rw[Jg (by omega),if_pos ⟨by omega,h⟩,Iz]
  refine Bi rfl fun a ha=>?_
  show bnd (C7 CL 3 _ _ 3 _) _=_
  rw[Aql (fun t r he=>by have:=R8 t;unfold Ul;split<;>omega)]
  rfl
 ·rw[if_neg h,Ase ts 4]
  have hf:Ce CL ts 3=Ce CL ts 4:=by
   rw[Jg (by omega),Jg (by omega)]
   simp only[h,and_false,if_false,Bool.false_eq_true]
  rw[hf]
  refine Bi rfl fun x hx=>?_
  generalize (Ce CL ts 4).2=i
  have key: ∀(f:Nat) (out:List Nd) (own:Nat) (ts:List Tk),C7 CL 3 f out own ts=C7 CL 4 f out own ts:=by
   intro f
   induction f with
   |zero=>intro out own ts;cases ts<;>rfl
   |succ f ih=>
    intro out own ts
    cases ts with
    |nil=>rfl
    |cons t r=>
     have hd:=R8 t
     by_cases hs:(Bj t).2=0∨(Bj t).2<3∨own<Ul (Bj t).2
     ·rw[E1 hs,E1 (by omega)]
     ·rw[Kd hs,Kd (by omega)]
      exact Bi rfl fun b hb=>ih _ _ _
  rw[key]
theorem Bq7(ts:List Tk):CL ts 7=if isT [45] ts=true then bnd (CL ts.tail 7) fun a i=>(some (⟨2,[]⟩::a),i) else Dq CL ts:=by
 rw[Ase ts 7]
 rw[Jg (by omega),if_neg (fun c=>absurd c.1 (by omega))]
 by_cases h:isT [45] ts=true
 ·rw[if_pos h,if_pos h,Iz]
  refine Bi rfl fun a ha=>?_
  show bnd (C7 CL 7 _ _ 7 _) _=_
  rw[Aql (fun t r he=>by have:=R8 t;omega)]
  rfl
 ·rw[if_neg h,if_neg h,Iz]
  conv=>rhs;rw[←Bvb (Dq CL ts)]
  refine Bi rfl fun a ha=>?_
  show bnd (C7 CL 7 _ _ 8 _) _=_
  rw[Aql (fun t r he=>by have:=R8 t;omega)]
  rfl
end Go.Av.G
end
