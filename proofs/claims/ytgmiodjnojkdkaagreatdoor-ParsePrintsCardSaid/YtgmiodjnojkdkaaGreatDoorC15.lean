import Derived.Test.YtgmiodjnojkdkaaGreatDoorC14
set_option linter.all false
section
set_option maxRecDepth 100000
set_option maxHeartbeats 8000000
namespace Go.Av.G
open Go Go.Av Go.Proofs
def Acl:List TOp:=[oo 0 (.mov (.cst (.bool false)))]
def Acm:List TOp:=[oo 29 (.call 0 0 (.cst (.fn 9)) [(.cst (.str [97,45,98,32,45,32,99,42,45,50,37]))] [] []),oo 28 (.mov (.tmp 29)),oo 30 (.ext 0 (.tmp 28)),oo 31 (.ext 1 (.tmp 28)),oo 32 (.ext 2 (.tmp 28)),oo 33 (.ext 3 (.tmp 28)),oo 1 (.mov (.tmp 30)),oo 2 (.mov (.tmp 31)),oo 3 (.mov (.tmp 32)),oo 4 (.mov (.tmp 33))]
def Acn:List TOp:=[oo 35 (.mov (.tmp 1)),oo 36 (.call 0 0 (.cst (.fn 17)) [(.tmp 35)] [] []),oo 34 (.mov (.tmp 36)),oo 37 (.ext 0 (.tmp 34)),oo 38 (.ext 1 (.tmp 34)),oo 5 (.mov (.tmp 37)),oo 6 (.mov (.tmp 38))]
def Aco:List TOp:=[oo 40 (.call 0 0 (.cst (.fn 9)) [(.cst (.str [40,97,32,60,32,49,41,32,61,32,40,110,111,116,32,98,41]))] [] []),oo 39 (.mov (.tmp 40)),oo 41 (.ext 0 (.tmp 39)),oo 42 (.ext 1 (.tmp 39)),oo 43 (.ext 2 (.tmp 39)),oo 44 (.ext 3 (.tmp 39)),oo 7 (.mov (.tmp 41)),oo 8 (.mov (.tmp 42)),oo 9 (.mov (.tmp 43)),oo 10 (.mov (.tmp 44))]
def Acp:List TOp:=[oo 46 (.mov (.tmp 7)),oo 47 (.call 0 0 (.cst (.fn 17)) [(.tmp 46)] [] []),oo 45 (.mov (.tmp 47)),oo 48 (.ext 0 (.tmp 45)),oo 49 (.ext 1 (.tmp 45)),oo 11 (.mov (.tmp 48)),oo 12 (.mov (.tmp 49))]
def Acq:List TOp:=[oo 51 (.call 0 0 (.cst (.fn 9)) [(.cst (.str [97,10,32,60,32,98,32,60,32,99]))] [] []),oo 50 (.mov (.tmp 51)),oo 52 (.ext 0 (.tmp 50)),oo 53 (.ext 1 (.tmp 50)),oo 54 (.ext 2 (.tmp 50)),oo 55 (.ext 3 (.tmp 50)),oo 13 (.mov (.tmp 52)),oo 14 (.mov (.tmp 53)),oo 15 (.mov (.tmp 54)),oo 16 (.mov (.tmp 55))]
def Acr:List TOp:=[oo 57 (.call 0 0 (.cst (.fn 9)) [(.cst (.str [40,97]))] [] []),oo 56 (.mov (.tmp 57)),oo 58 (.ext 0 (.tmp 56)),oo 59 (.ext 1 (.tmp 56)),oo 60 (.ext 2 (.tmp 56)),oo 61 (.ext 3 (.tmp 56)),oo 17 (.mov (.tmp 58)),oo 18 (.mov (.tmp 59)),oo 19 (.mov (.tmp 60)),oo 20 (.mov (.tmp 61))]
def Acs:List TOp:=[oo 63 (.call 0 0 (.cst (.fn 12)) [(.cst (.str [112,114,111,100,117,99,116,32,115,97,118,101,32,101,117,114,32,123,32,98,97,115,105,115,32,97,99,116,51,54,53,32,59,32,112,101,114,105,111,100,32,51,32,59,32,116,105,101,114,115,32,123,32,48,32,58,32,49,46,50,53,32,37,32,59,32,53,48,48,32,58,32,50,32,37,32,59,32,125,32,102,101,101,32,105,102,32,98,97,108,97,110,99,101,32,60,32,49,48,32,116,104,101,110,32,49,32,101,108,115,101,32,48,32,59,32,109,105,110,105,109,117,109,32,53,32,59,32,111,118,101,114,100,114,97,102,116,32,48,32,59,32,110,111,116,105,99,101,32,51,48,32,59,32,125]))] [] []),oo 62 (.mov (.tmp 63)),oo 64 (.ext 0 (.tmp 62)),oo 65 (.ext 1 (.tmp 62)),oo 66 (.ext 2 (.tmp 62)),oo 67 (.ext 3 (.tmp 62)),oo 21 (.mov (.tmp 64)),oo 22 (.mov (.tmp 65)),oo 23 (.mov (.tmp 66)),oo 24 (.mov (.tmp 67))]
def Acu:List TOp:=[oo 69 (.mov (.tmp 21)),oo 70 (.call 0 0 (.cst (.fn 19)) [(.tmp 69)] [] []),oo 68 (.mov (.tmp 70)),oo 71 (.ext 0 (.tmp 68)),oo 72 (.ext 1 (.tmp 68)),oo 25 (.mov (.tmp 71)),oo 26 (.mov (.tmp 72))]
def Acv:List TOp:=[oo 73 (.mov (.tmp 1)),ot 74 (.st 4) (.build [.pv (.int .i64 0),.pv (.str [])] [(0,1,(.cst (.int .i64 4)))]),ot 75 (.st 4) (.build [.pv (.int .i64 0),.pv (.str [])] [(0,1,(.cst (.int .i64 4)))]),ot 76 (.st 4) (.build [.pv (.int .i64 0),.pv (.str [])] [(0,1,(.cst (.int .i64 1))),(1,1,(.cst (.str [97])))]),ot 77 (.st 4) (.build [.pv (.int .i64 0),.pv (.str [])] [(0,1,(.cst (.int .i64 1))),(1,1,(.cst (.str [98])))]),ot 78 (.st 4) (.build [.pv (.int .i64 0),.pv (.str [])] [(0,1,(.cst (.int .i64 5)))]),ot 79 (.st 4) (.build [.pv (.int .i64 0),.pv (.str [])] [(0,1,(.cst (.int .i64 1))),(1,1,(.cst (.str [99])))]),ot 80 (.st 4) (.build [.pv (.int .i64 0),.pv (.str [])] [(0,1,(.cst (.int .i64 2)))]),ot 81 (.st 4) (.build [.pv (.int .i64 0),.pv (.str [])] [(1,1,(.cst (.str [50,37])))]),ot 82 (.st 4) (.lit false 2 [(.tmp 74),(.tmp 75),(.tmp 76),(.tmp 77),(.tmp 78),(.tmp 79),(.tmp 80),(.tmp 81)]),oo 83 (.call 0 0 (.cst (.fn 11)) [(.tmp 73),(.tmp 82)] [] []),oo 27 (.mov (.tmp 83))]
def Xk:List TOp:=[oo 84 (.mov (.tmp 21)),oo 85 (.len false (.tmp 84)),oo 86 (.bin false .neq (.tmp 85) (.cst (.int .i64 1)))]
def Xl:List TOp:=[oo 0 (.mov (.cst (.bool false)))]
def Ja:Kp:=⟨[],[(0,false)],[],[],[]⟩
def Xm:List TOp:=[oo 87 (.mov (.tmp 4)),oo 88 (.bin false .eql (.tmp 87) (.cst (.int .i64 0))),oo 89 (.mov (.tmp 88)),og 90 89 true .bool (.mov (.tmp 27)),oo 91 (.pick (.tmp 89) (.tmp 90) (.cst (.bool false))),oo 92 (.mov (.tmp 91)),og 93 92 true .bool (.mov (.tmp 6)),og 94 92 true .bool (.bin false .eql (.tmp 93) (.cst (.int .i64 0))),oo 95 (.pick (.tmp 92) (.tmp 94) (.cst (.bool false))),oo 96 (.mov (.tmp 95)),og 97 96 true .bool (.mov (.tmp 5)),og 98 96 true .bool (.bin false .eql (.tmp 97) (.cst (.str [97,32,45,32,98,32,45,32,99,32,42,32,45,32,50,32,37]))),oo 99 (.pick (.tmp 96) (.tmp 98) (.cst (.bool false))),oo 100 (.mov (.tmp 99)),og 101 100 true .bool (.mov (.tmp 1)),og 102 100 true .bool (.call 0 0 (.cst (.fn 21)) [(.tmp 101)] [] []),og 103 100 true .bool (.bin false .eql (.tmp 102) (.cst (.int .i64 4))),oo 104 (.pick (.tmp 100) (.tmp 103) (.cst (.bool false))),oo 105 (.mov (.tmp 104)),og 106 105 true .bool (.mov (.tmp 10)),og 107 105 true .bool (.bin false .eql (.tmp 106) (.cst (.int .i64 0))),oo 108 (.pick (.tmp 105) (.tmp 107) (.cst (.bool false))),oo 109 (.mov (.tmp 108)),og 110 109 true .bool (.mov (.tmp 12)),og 111 109 true .bool (.bin false .eql (.tmp 110) (.cst (.int .i64 0))),oo 112 (.pick (.tmp 109) (.tmp 111) (.cst (.bool false))),oo 113 (.mov (.tmp 112)),og 114 113 true .bool (.mov (.tmp 11)),og 115 113 true .bool (.bin false .eql (.tmp 114) (.cst (.str [40,32,97,32,60,32,49,32,41,32,61,32,40,32,110,111,116,32,98,32,41]))),oo 116 (.pick (.tmp 113) (.tmp 115) (.cst (.bool false))),oo 117 (.mov (.tmp 116)),og 118 117 true .bool (.mov (.tmp 16)),og 119 117 true .bool (.bin false .eql (.tmp 118) (.cst (.int .i64 14))),oo 120 (.pick (.tmp 117) (.tmp 119) (.cst (.bool false))),oo 121 (.mov (.tmp 120)),og 122 121 true .bool (.mov (.tmp 14)),og 123 121 true .bool (.bin false .eql (.tmp 122) (.cst (.int .i64 2))),oo 124 (.pick (.tmp 121) (.tmp 123) (.cst (.bool false))),oo 125 (.mov (.tmp 124)),og 126 125 true .bool (.mov (.tmp 15)),og 127 125 true .bool (.bin false .eql (.tmp 126) (.cst (.int .i64 6))),oo 128 (.pick (.tmp 125) (.tmp 127) (.cst (.bool false))),oo 129 (.mov (.tmp 128)),og 130 129 true .bool (.mov (.tmp 20)),og 131 129 true .bool (.bin false .eql (.tmp 130) (.cst (.int .i64 14))),oo 132 (.pick (.tmp 129) (.tmp 131) (.cst (.bool false))),oo 133 (.mov (.tmp 132)),og 134 133 true .bool (.mov (.tmp 18)),og 135 133 true .bool (.bin false .eql (.tmp 134) (.cst (.int .i64 1))),oo 136 (.pick (.tmp 133) (.tmp 135) (.cst (.bool false))),oo 137 (.mov (.tmp 136)),og 138 137 true .bool (.mov (.tmp 19)),og 139 137 true .bool (.bin false .eql (.tmp 138) (.cst (.int .i64 3))),oo 140 (.pick (.tmp 137) (.tmp 139) (.cst (.bool false))),oo 141 (.mov (.tmp 140)),og 142 141 true .bool (.mov (.tmp 24)),og 143 141 true .bool (.bin false .eql (.tmp 142) (.cst (.int .i64 0))),oo 144 (.pick (.tmp 141) (.tmp 143) (.cst (.bool false))),oo 145 (.mov (.tmp 144)),og 146 145 true .bool (.mov (.tmp 26)),og 147 145 true .bool (.bin false .eql (.tmp 146) (.cst (.int .i64 0))),oo 148 (.pick (.tmp 145) (.tmp 147) (.cst (.bool false))),oo 149 (.mov (.tmp 148)),og 150 149 true .bool (.mov (.tmp 25)),og 151 149 true .bool (.bin false .eql (.tmp 150) (.cst (.str [112,114,111,100,117,99,116,32,115,97,118,101,32,101,117,114,32,123,32,98,97,115,105,115,32,97,99,116,51,54,53,32,59,32,112,101,114,105,111,100,32,51,32,59,32,116,105,101,114,115,32,123,32,48,32,58,32,49,46,50,53,32,37,32,59,32,53,48,48,32,58,32,50,32,37,32,59,32,125,32,102,101,101,32,105,102,32,98,97,108,97,110,99,101,32,60,32,49,48,32,116,104,101,110,32,49,32,101,108,115,101,32,48,32,59,32,109,105,110,105,109,117,109,32,53,32,59,32,111,118,101,114,100,114,97,102,116,32,48,32,59,32,110,111,116,105,99,101,32,51,48,32,59,32,125]))),oo 152 (.pick (.tmp 149) (.tmp 151) (.cst (.bool false))),oo 153 (.mov (.tmp 152)),og 154 153 true .bool (.mov (.tmp 21)),og 155 153 true .bool (.idx 9 (.tmp 154) (.cst (.int .i64 0))),og 156 153 true .bool (.fld 4 (.tmp 155)),og 157 153 true .bool (.load false 1 (.tmp 156)),og 158 153 true .bool (.len false (.tmp 157)),og 159 153 true .bool (.bin false .eql (.tmp 158) (.cst (.int .i64 2))),oo 160 (.pick (.tmp 153) (.tmp 159) (.cst (.bool false))),oo 161 (.mov (.tmp 160)),og 162 161 true .bool (.mov (.tmp 21)),og 163 161 true .bool (.idx 9 (.tmp 162) (.cst (.int .i64 0))),og 164 161 true .bool (.fld 4 (.tmp 163)),og 165 161 true .bool (.load false 1 (.tmp 164)),og 166 161 true .bool (.idx 2 (.tmp 165) (.cst (.int .i64 1))),og 167 161 true .bool (.fld 1 (.tmp 166)),og 168 161 true .bool (.load false 1 (.tmp 167)),og 169 161 true .bool (.bin false .eql (.tmp 168) (.cst (.str [50]))),oo 170 (.pick (.tmp 161) (.tmp 169) (.cst (.bool false))),oo 171 (.mov (.tmp 170)),og 172 171 true .bool (.mov (.tmp 21)),og 173 171 true .bool (.idx 9 (.tmp 172) (.cst (.int .i64 0))),og 174 171 true .bool (.fld 8 (.tmp 173)),og 175 171 true .bool (.load false 1 (.tmp 174)),og 176 171 true .bool (.bin false .eql (.tmp 175) (.cst (.str [51,48]))),oo 177 (.pick (.tmp 171) (.tmp 176) (.cst (.bool false))),oo 178 (.mov (.tmp 177)),og 179 178 true .bool (.mov (.tmp 21)),og 180 178 true .bool (.idx 9 (.tmp 179) (.cst (.int .i64 0))),og 181 178 true (.st 7) (.load true 9 (.tmp 180)),og 182 178 true .bool (.mov (.tmp 21)),og 183 178 true .bool (.idx 9 (.tmp 182) (.cst (.int .i64 0))),og 184 178 true (.st 7) (.load true 9 (.tmp 183)),og 185 178 true .bool (.call 0 0 (.cst (.fn 24)) [(.tmp 181),(.tmp 184)] [] []),oo 186 (.pick (.tmp 178) (.tmp 185) (.cst (.bool false))),oo 187 (.mov (.tmp 186)),og 188 187 true (.st 4) (.build [.pv (.int .i64 0),.pv (.str [])] [(0,1,(.cst (.int .i64 2)))]),og 189 187 true (.st 4) (.lit false 2 [(.tmp 188)]),og 190 187 true .bool (.call 0 0 (.cst (.fn 23)) [(.tmp 189)] [] []),og 191 187 true .bool (.un .not (.tmp 190)),oo 192 (.pick (.tmp 187) (.tmp 191) (.cst (.bool false))),oo 193 (.mov (.tmp 192)),og 194 193 true .bool (.mov (.tmp 1)),og 195 193 true .bool (.call 0 0 (.cst (.fn 23)) [(.tmp 194)] [] []),oo 196 (.pick (.tmp 193) (.tmp 195) (.cst (.bool false))),oo 0 (.mov (.tmp 196))]
def Akc:TFd:=⟨0,[(.tmp 0,.bool)],[],(.seq (.ops Acl) (.seq (.ops Acm) (.seq (.ops Acn) (.seq (.ops Aco) (.seq (.ops Acp) (.seq (.ops Acq) (.seq (.ops Acr) (.seq (.ops Acs) (.seq (.ops Acu) (.seq (.ops Acv) (.seq (.seq (.ops Xk) (.cond (.tmp 86) (.free (.seq (.ops Xl) (.keep Ja .ret))) .skip)) (.seq (.draw [] Xm) (.keep Ja .ret)))))))))))))⟩
noncomputable def Le:Ent:=⟨[],[],[],⟨(.ty .bool),[],[],[.bool],[],[]⟩,none,fun p=>Cf⟩
theorem Abv:Le.ok Tryz.prog 8:=Au hm Tryz.func8 (fd:=Akc) (by kernel_rfl) (Ak (l:=[(9,Ar2),(17,Uy),(12,Au5),(19,Lq),(11,Gw),(21,Mt),(24,Acb),(23,E4)]) (y:=[]) ⟨A2q,Aj5,A74,Uj,Jq,Q7,Aos,Fs,trivial⟩ trivial) (by kernel_rfl) (fun p=>by kernel_rfl)
def Xy:List TOp:=[oo 2 (.mov (.cst (.bool false)))]
def Xz:List TOp:=[oo 3 (.mov (.tmp 0)),oo 4 (.bin false .geq (.tmp 3) (.cst (.int .u8 97))),oo 5 (.mov (.tmp 4)),og 6 5 true .bool (.mov (.tmp 0)),og 7 5 true .bool (.bin false .leq (.tmp 6) (.cst (.int .u8 122))),oo 8 (.pick (.tmp 5) (.tmp 7) (.cst (.bool false))),oo 2 (.mov (.tmp 8))]
def Xx:Kp:=⟨[],[(2,false)],[],[],[]⟩
def Agp:TFd:=⟨1,[(.tmp 2,.bool)],[],(.seq (.ops Xy) (.seq (.ops Xz) (.keep Xx .ret)))⟩
def Gc:Ent:=⟨[.ty (.int .u8)],[],[(.int .u8)],⟨(.ty .bool),[],[],[.bool],[],[]⟩,none,fun p=>Di p⟩
theorem Iz:Gc.ok Tryz.prog 82:=Au hm Tryz.func82 (fd:=Agp) (by kernel_rfl) (Ak (l:=[]) (y:=[]) trivial trivial) (by kernel_rfl) (fun p=>by kernel_rfl)
def Ac8:List TOp:=[oo 2 (.mov (.cst (.bool false)))]
def Ac9:List TOp:=[oo 3 (.mov (.tmp 0)),oo 4 (.bin false .geq (.tmp 3) (.cst (.int .u8 48))),oo 5 (.mov (.tmp 4)),og 6 5 true .bool (.mov (.tmp 0)),og 7 5 true .bool (.bin false .leq (.tmp 6) (.cst (.int .u8 57))),oo 8 (.pick (.tmp 5) (.tmp 7) (.cst (.bool false))),oo 2 (.mov (.tmp 8))]
def Ac7:Kp:=⟨[],[(2,false)],[],[],[]⟩
def Ake:TFd:=⟨1,[(.tmp 2,.bool)],[],(.seq (.ops Ac8) (.seq (.ops Ac9) (.keep Ac7 .ret)))⟩
def C7:Ent:=⟨[.ty (.int .u8)],[],[(.int .u8)],⟨(.ty .bool),[],[],[.bool],[],[]⟩,none,fun p=>B2 p⟩
theorem Dz:C7.ok Tryz.prog 84:=Au hm Tryz.func84 (fd:=Ake) (by kernel_rfl) (Ak (l:=[]) (y:=[]) trivial trivial) (by kernel_rfl) (fun p=>by kernel_rfl)
def Ahc:List TOp:=[oo 2 (.alloc [.pv (.int .i64 0),.pv (.int .i64 0),.pv (.int .i64 0)])]
def Ahd:List TOp:=[oo 3 (.mov (.cst (.int .i64 0)))]
def Ahe:List TOp:=[oo 4 (.mov (.tmp 3)),oo 5 (.mov (.tmp 0)),oo 6 (.len true (.tmp 5)),oo 7 (.bin false .lss (.tmp 4) (.tmp 6)),oo 8 (.mov (.tmp 7)),og 9 8 true .bool (.mov (.tmp 0)),og 10 8 true .bool (.mov (.tmp 3)),og 11 8 true .bool (.sidx (.tmp 9) (.tmp 10)),og 12 8 true .bool (.call 0 0 (.cst (.fn 82)) [(.tmp 11)] [] []),og 13 8 true .bool (.mov (.tmp 12)),og 14 13 false .bool (.mov (.tmp 0)),og 15 13 false .bool (.mov (.tmp 3)),og 16 13 false .bool (.sidx (.tmp 14) (.tmp 15)),og 17 13 false .bool (.call 0 0 (.cst (.fn 84)) [(.tmp 16)] [] []),og 18 8 true .bool (.pick (.tmp 13) (.cst (.bool true)) (.tmp 17)),og 19 8 true .bool (.mov (.tmp 18)),og 20 19 false .bool (.mov (.tmp 0)),og 21 19 false .bool (.mov (.tmp 3)),og 22 19 false .bool (.sidx (.tmp 20) (.tmp 21)),og 23 19 false .bool (.bin false .eql (.tmp 22) (.cst (.int .u8 95))),og 24 8 true .bool (.pick (.tmp 19) (.cst (.bool true)) (.tmp 23)),oo 25 (.pick (.tmp 8) (.tmp 24) (.cst (.bool false)))]
def Ahf:List TOp:=[oo 26 (.mov (.tmp 3)),oo 27 (.bin false .add (.tmp 26) (.cst (.int .i64 1))),oo 3 (.mov (.tmp 27))]
def Ahb:DC:=(.seq (.seq (.ops Ahe) (.cond (.tmp 25) .skip (.exit 0))) (.pass 1 (.ops Ahf)))
def Ag9:Kp:=⟨[],[(0,false),(2,false),(3,false)],[(.loc 2 0,false)],[],[]⟩
def Ahh:Sig:=⟨[(0,none),(2,some (.ptr (.loc 2 0) 0)),(3,some (.ty (.int .i64)))],[(.loc 2 0,(.box [none,none,none]))],[(.int .i64)],[],[]⟩
def Aha:Kp:=⟨[],[(2,false),(3,false)],[(.loc 2 0,false)],[],[]⟩
def Ahi:Sig:=⟨[(2,some (.ptr (.loc 2 0) 0)),(3,some (.ty (.int .i64)))],[(.loc 2 0,(.box [none,none,none]))],[(.int .i64)],[],[]⟩
def Ahg:List TOp:=[oo 28 (.mov (.tmp 3)),oo 29 (.bin false .gtr (.tmp 28) (.cst (.int .i64 32)))]
def Adf:List TOp:=[ot 30 (.st 8) (.build [.pv (.int .i64 0),.pv (.int .i64 0),.pv (.int .i64 0)] [(2,1,(.cst (.int .i64 3)))]),on (.store 3 (.tmp 2) (.tmp 30))]
def J6:Kp:=⟨[],[(2,false)],[(.loc 2 0,false)],[],[]⟩
def Adg:List TOp:=[oo 31 (.mov (.tmp 3)),ot 32 (.st 8) (.build [.pv (.int .i64 0),.pv (.int .i64 0),.pv (.int .i64 0)] [(0,1,(.cst (.int .i64 0))),(1,1,(.tmp 31))]),on (.store 3 (.tmp 2) (.tmp 32))]
def Am9:TFd:=⟨1,[(.cell 2 true 3,(.st 8))],[],(.seq (.ops Ahc) (.seq (.ops Ahd) (.seq (.join Aha Ahi (.block 0 (.loop [0,2,3] [] Ag9 Ahh Ahb))) (.seq (.seq (.ops Ahg) (.cond (.tmp 29) (.free (.seq (.ops Adf) (.keep J6 .ret))) .skip)) (.seq (.ops Adg) (.keep J6 .ret))))))⟩
noncomputable def M1:Ent:=⟨[.ty .str],[],[.str],⟨(.ty (.st 8)),[],[],[(.st 8)],[],[]⟩,none,fun p=>Gf p⟩
theorem Af1:M1.ok Tryz.prog 83:=Au hm Tryz.func83 (fd:=Am9) (by kernel_rfl) (Ak (l:=[(82,Gc),(84,C7)]) (y:=[]) ⟨Iz,Dz,trivial⟩ trivial) (by kernel_rfl) (fun p=>by kernel_rfl)
def Xq:List TOp:=[oo 2 (.mov (.cst (.int .i64 0)))]
def Xr:List TOp:=[oo 3 (.mov (.cst (.int .i64 0)))]
def Xs:List TOp:=[oo 4 (.mov (.tmp 3)),oo 5 (.mov (.tmp 0)),oo 6 (.len true (.tmp 5)),oo 7 (.bin false .lss (.tmp 4) (.tmp 6)),oo 8 (.mov (.tmp 7)),og 9 8 true .bool (.mov (.tmp 0)),og 10 8 true .bool (.mov (.tmp 3)),og 11 8 true .bool (.sidx (.tmp 9) (.tmp 10)),og 12 8 true .bool (.call 0 0 (.cst (.fn 84)) [(.tmp 11)] [] []),oo 13 (.pick (.tmp 8) (.tmp 12) (.cst (.bool false)))]
def Xt:List TOp:=[oo 14 (.mov (.tmp 3)),oo 15 (.bin false .add (.tmp 14) (.cst (.int .i64 1))),oo 3 (.mov (.tmp 15))]
def Xp:DC:=(.seq (.seq (.ops Xs) (.cond (.tmp 13) .skip (.exit 0))) (.pass 1 (.ops Xt)))
def Xn:Kp:=⟨[],[(0,false),(3,false)],[],[],[]⟩
def Xv:Sig:=⟨[(0,none),(3,some (.ty (.int .i64)))],[],[(.int .i64)],[],[]⟩
def Xo:Kp:=⟨[],[(3,false)],[],[],[]⟩
def Xw:Sig:=⟨[(3,some (.ty (.int .i64)))],[],[(.int .i64)],[],[]⟩
def Xu:List TOp:=[oo 16 (.mov (.tmp 3)),oo 2 (.mov (.tmp 16))]
def U1:Kp:=⟨[],[(2,false)],[],[],[]⟩
def Ago:TFd:=⟨1,[(.tmp 2,.bool)],[],(.seq (.ops Xq) (.seq (.ops Xr) (.seq (.join Xo Xw (.block 0 (.loop [0,3] [] Xn Xv Xp))) (.seq (.ops Xu) (.keep U1 .ret)))))⟩
noncomputable def Jn:Ent:=⟨[.ty .str],[],[.str],⟨(.ty (.int .i64)),[],[],[(.int .i64)],[],[]⟩,none,fun p=>Cw p⟩
theorem W1:Jn.ok Tryz.prog 107:=Au hm Tryz.func107 (fd:=Ago) (by kernel_rfl) (Ak (l:=[(84,C7)]) (y:=[]) ⟨Dz,trivial⟩ trivial) (by kernel_rfl) (fun p=>by kernel_rfl)
def X1:List TOp:=[oo 2 (.alloc [.pv (.int .i64 0),.pv (.int .i64 0),.pv (.int .i64 0)])]
def X2:List TOp:=[oo 5 (.mov (.tmp 0)),oo 6 (.call 0 0 (.cst (.fn 107)) [(.tmp 5)] [] []),oo 3 (.mov (.tmp 6))]
def X3:List TOp:=[oo 4 (.mov (.cst (.int .i64 0)))]
def X4:List TOp:=[oo 7 (.mov (.tmp 3)),oo 8 (.bin false .add (.tmp 7) (.cst (.int .i64 1))),oo 9 (.mov (.tmp 0)),oo 10 (.len true (.tmp 9)),oo 11 (.bin false .lss (.tmp 8) (.tmp 10)),oo 12 (.mov (.tmp 11)),og 13 12 true .bool (.mov (.tmp 0)),og 14 12 true .bool (.mov (.tmp 3)),og 15 12 true .bool (.sidx (.tmp 13) (.tmp 14)),og 16 12 true .bool (.bin false .eql (.tmp 15) (.cst (.int .u8 46))),oo 17 (.pick (.tmp 12) (.tmp 16) (.cst (.bool false))),oo 18 (.mov (.tmp 17)),og 19 18 true .bool (.mov (.tmp 0)),og 20 18 true .bool (.mov (.tmp 3)),og 21 18 true .bool (.bin false .add (.tmp 20) (.cst (.int .i64 1))),og 22 18 true .bool (.sidx (.tmp 19) (.tmp 21)),og 23 18 true .bool (.call 0 0 (.cst (.fn 84)) [(.tmp 22)] [] []),oo 24 (.pick (.tmp 18) (.tmp 23) (.cst (.bool false)))]
def X5:List TOp:=[oo 25 (.mov (.tmp 0)),oo 26 (.mov (.tmp 3)),oo 27 (.bin false .add (.tmp 26) (.cst (.int .i64 1))),oo 28 (.slc true 0 (.tmp 25) (some (.tmp 27)) none),oo 29 (.call 0 0 (.cst (.fn 107)) [(.tmp 28)] [] []),oo 4 (.mov (.tmp 29))]
def X0:Kp:=⟨[],[(0,false),(2,false),(3,false),(4,false)],[(.loc 2 0,false)],[],[]⟩
def X8:Sig:=⟨[(0,none),(2,some (.ptr (.loc 2 0) 0)),(3,none),(4,some (.ty (.int .i64)))],[(.loc 2 0,(.box [none,none,none]))],[(.int .i64)],[],[]⟩
def X6:List TOp:=[oo 30 (.mov (.tmp 3)),oo 31 (.bin false .gtr (.tmp 30) (.cst (.int .i64 15))),oo 32 (.mov (.tmp 31)),og 33 32 false .bool (.mov (.tmp 4)),og 34 32 false .bool (.bin false .gtr (.tmp 33) (.cst (.int .i64 9))),oo 35 (.pick (.tmp 32) (.cst (.bool true)) (.tmp 34)),oo 36 (.mov (.tmp 35)),og 37 36 false .bool (.mov (.tmp 3)),og 38 36 false .bool (.bin false .gtr (.tmp 37) (.cst (.int .i64 1))),og 39 36 false .bool (.mov (.tmp 38)),og 40 39 true .bool (.mov (.tmp 0)),og 41 39 true .bool (.sidx (.tmp 40) (.cst (.int .i64 0))),og 42 39 true .bool (.bin false .eql (.tmp 41) (.cst (.int .u8 48))),og 43 36 false .bool (.pick (.tmp 39) (.tmp 42) (.cst (.bool false))),oo 44 (.pick (.tmp 36) (.cst (.bool true)) (.tmp 43))]
def X7:List TOp:=[ot 45 (.st 8) (.build [.pv (.int .i64 0),.pv (.int .i64 0),.pv (.int .i64 0)] [(2,1,(.cst (.int .i64 3)))]),on (.store 3 (.tmp 2) (.tmp 45))]
def Fu:Kp:=⟨[],[(2,false)],[(.loc 2 0,false)],[],[]⟩
def U2:List TOp:=[oo 46 (.mov (.tmp 4)),oo 47 (.bin false .gtr (.tmp 46) (.cst (.int .i64 0)))]
def U3:List TOp:=[oo 48 (.mov (.tmp 3)),oo 49 (.bin false .add (.tmp 48) (.cst (.int .i64 1))),oo 50 (.mov (.tmp 4)),oo 51 (.bin false .add (.tmp 49) (.tmp 50)),ot 52 (.st 8) (.build [.pv (.int .i64 0),.pv (.int .i64 0),.pv (.int .i64 0)] [(0,1,(.cst (.int .i64 1))),(1,1,(.tmp 51))]),on (.store 3 (.tmp 2) (.tmp 52))]
def U4:List TOp:=[oo 53 (.mov (.tmp 3)),ot 54 (.st 8) (.build [.pv (.int .i64 0),.pv (.int .i64 0),.pv (.int .i64 0)] [(0,1,(.cst (.int .i64 1))),(1,1,(.tmp 53))]),on (.store 3 (.tmp 2) (.tmp 54))]
def Agy:TFd:=⟨1,[(.cell 2 true 3,(.st 8))],[],(.seq (.ops X1) (.seq (.ops X2) (.seq (.ops X3) (.seq (.seq (.ops X4) (.join X0 X8 (.cond (.tmp 24) (.ops X5) .skip))) (.seq (.seq (.ops X6) (.cond (.tmp 44) (.free (.seq (.ops X7) (.keep Fu .ret))) .skip)) (.seq (.seq (.ops U2) (.cond (.tmp 47) (.free (.seq (.ops U3) (.keep Fu .ret))) .skip)) (.seq (.ops U4) (.keep Fu .ret))))))))⟩
noncomputable def Jo:Ent:=⟨[.ty .str],[],[.str],⟨(.ty (.st 8)),[],[],[(.st 8)],[],[]⟩,none,fun p=>Et p⟩
theorem W3:Jo.ok Tryz.prog 85:=Au hm Tryz.func85 (fd:=Agy) (by kernel_rfl) (Ak (l:=[(107,Jn),(84,C7)]) (y:=[]) ⟨W1,Dz,trivial⟩ trivial) (by kernel_rfl) (fun p=>by kernel_rfl)
def Ya:List TOp:=[oo 2 (.alloc [.pv (.int .i64 0),.pv (.int .i64 0),.pv (.int .i64 0)])]
def Yb:List TOp:=[oo 3 (.mov (.cst (.int .i64 1)))]
def Yc:List TOp:=[oo 5 (.mov (.tmp 3)),oo 6 (.mov (.tmp 0)),oo 7 (.len true (.tmp 6)),oo 8 (.bin false .lss (.tmp 5) (.tmp 7)),oo 9 (.mov (.tmp 8)),og 10 9 true .bool (.mov (.tmp 0)),og 11 9 true .bool (.mov (.tmp 3)),og 12 9 true .bool (.sidx (.tmp 10) (.tmp 11)),og 13 9 true .bool (.bin false .neq (.tmp 12) (.cst (.int .u8 34))),oo 14 (.pick (.tmp 9) (.tmp 13) (.cst (.bool false)))]
def Yd:List TOp:=[oo 15 (.mov (.tmp 3)),oo 16 (.bin false .add (.tmp 15) (.cst (.int .i64 1))),oo 3 (.mov (.tmp 16))]
def X9:DC:=(.seq (.seq (.ops Yc) (.cond (.tmp 14) .skip (.exit 0))) (.pass 1 (.ops Yd)))
def Jb:Kp:=⟨[],[(0,false),(2,false),(3,false)],[(.loc 2 0,false)],[],[]⟩
def Jc:Sig:=⟨[(0,none),(2,some (.ptr (.loc 2 0) 0)),(3,some (.ty (.int .i64)))],[(.loc 2 0,(.box [none,none,none]))],[(.int .i64)],[],[]⟩
def Ye:List TOp:=[oo 17 (.mov (.tmp 3)),oo 18 (.mov (.tmp 0)),oo 19 (.len true (.tmp 18)),oo 20 (.bin false .eql (.tmp 17) (.tmp 19))]
def Yf:List TOp:=[ot 21 (.st 8) (.build [.pv (.int .i64 0),.pv (.int .i64 0),.pv (.int .i64 0)] [(2,1,(.cst (.int .i64 14)))]),on (.store 3 (.tmp 2) (.tmp 21))]
def Dq:Kp:=⟨[],[(2,false)],[(.loc 2 0,false)],[],[]⟩
def U8:List TOp:=[oo 4 (.mov (.cst (.int .i64 1)))]
def U9:List TOp:=[oo 22 (.mov (.tmp 4)),oo 23 (.mov (.tmp 3)),oo 24 (.bin false .lss (.tmp 22) (.tmp 23))]
def Va:List TOp:=[oo 27 (.mov (.tmp 0)),oo 28 (.mov (.tmp 4)),oo 29 (.sidx (.tmp 27) (.tmp 28)),oo 30 (.bin false .lss (.tmp 29) (.cst (.int .u8 32))),oo 31 (.mov (.tmp 30)),og 32 31 false .bool (.mov (.tmp 0)),og 33 31 false .bool (.mov (.tmp 4)),og 34 31 false .bool (.sidx (.tmp 32) (.tmp 33)),og 35 31 false .bool (.bin false .gtr (.tmp 34) (.cst (.int .u8 126))),oo 36 (.pick (.tmp 31) (.cst (.bool true)) (.tmp 35))]
def Vb:List TOp:=[ot 37 (.st 8) (.build [.pv (.int .i64 0),.pv (.int .i64 0),.pv (.int .i64 0)] [(2,1,(.cst (.int .i64 3)))]),on (.store 3 (.tmp 2) (.tmp 37))]
def Vc:List TOp:=[oo 25 (.mov (.tmp 4)),oo 26 (.bin false .add (.tmp 25) (.cst (.int .i64 1))),oo 4 (.mov (.tmp 26))]
def U7:DC:=(.seq (.seq (.ops U9) (.cond (.tmp 24) .skip (.exit 2))) (.seq (.pass 3 (.seq (.ops Va) (.cond (.tmp 36) (.free (.seq (.ops Vb) (.keep Dq .ret))) .skip))) (.ops Vc)))
def U5:Kp:=⟨[],[(0,false),(2,false),(3,false),(4,false)],[(.loc 2 0,false)],[],[]⟩
def Vg:Sig:=⟨[(0,none),(2,some (.ptr (.loc 2 0) 0)),(3,none),(4,some (.ty (.int .i64)))],[(.loc 2 0,(.box [none,none,none]))],[(.int .i64)],[],[]⟩
def U6:Kp:=⟨[],[(2,false),(3,false)],[(.loc 2 0,false)],[],[]⟩
def Vh:Sig:=⟨[(2,some (.ptr (.loc 2 0) 0)),(3,none)],[(.loc 2 0,(.box [none,none,none]))],[],[],[]⟩
def Vd:List TOp:=[oo 38 (.mov (.tmp 3)),oo 39 (.bin false .gtr (.tmp 38) (.cst (.int .i64 33)))]
def Ve:List TOp:=[ot 40 (.st 8) (.build [.pv (.int .i64 0),.pv (.int .i64 0),.pv (.int .i64 0)] [(2,1,(.cst (.int .i64 3)))]),on (.store 3 (.tmp 2) (.tmp 40))]
def Vf:List TOp:=[oo 41 (.mov (.tmp 3)),oo 42 (.bin false .add (.tmp 41) (.cst (.int .i64 1))),ot 43 (.st 8) (.build [.pv (.int .i64 0),.pv (.int .i64 0),.pv (.int .i64 0)] [(0,1,(.cst (.int .i64 2))),(1,1,(.tmp 42))]),on (.store 3 (.tmp 2) (.tmp 43))]
def Agz:TFd:=⟨1,[(.cell 2 true 3,(.st 8))],[],(.seq (.ops Ya) (.seq (.ops Yb) (.seq (.join Jb Jc (.block 0 (.loop [0,2,3] [] Jb Jc X9))) (.seq (.seq (.ops Ye) (.cond (.tmp 20) (.free (.seq (.ops Yf) (.keep Dq .ret))) .skip)) (.seq (.seq (.ops U8) (.joinO U6 Vh (.block 2 (.loop [0,2,3,4] [] U5 Vg U7)))) (.seq (.seq (.ops Vd) (.cond (.tmp 39) (.free (.seq (.ops Ve) (.keep Dq .ret))) .skip)) (.seq (.ops Vf) (.keep Dq .ret))))))))⟩
noncomputable def Jp:Ent:=⟨[.ty .str],[],[.str],⟨(.ty (.st 8)),[],[],[(.st 8)],[],[]⟩,none,fun p=>Eu p⟩
theorem W4:Jp.ok Tryz.prog 86:=Au hm Tryz.func86 (fd:=Agz) (by kernel_rfl) (Ak (l:=[]) (y:=[]) trivial trivial) (by kernel_rfl) (fun p=>by kernel_rfl)
def Ag0:List TOp:=[oo 2 (.alloc [.pv (.int .i64 0),.pv (.int .i64 0),.pv (.int .i64 0)])]
def Ag1:List TOp:=[oo 5 (.mov (.tmp 0)),oo 6 (.len true (.tmp 5)),oo 7 (.bin false .gtr (.tmp 6) (.cst (.int .i64 1))),oo 8 (.mov (.tmp 7)),og 9 8 true .bool (.mov (.tmp 0)),og 10 8 true .bool (.slc true 0 (.tmp 9) none (some (.cst (.int .i64 2)))),og 11 8 true .bool (.bin false .eql (.tmp 10) (.cst (.str [60,61]))),og 12 8 true .bool (.mov (.tmp 11)),og 13 12 false .bool (.mov (.tmp 0)),og 14 12 false .bool (.slc true 0 (.tmp 13) none (some (.cst (.int .i64 2)))),og 15 12 false .bool (.bin false .eql (.tmp 14) (.cst (.str [62,61]))),og 16 8 true .bool (.pick (.tmp 12) (.cst (.bool true)) (.tmp 15)),og 17 8 true .bool (.mov (.tmp 16)),og 18 17 false .bool (.mov (.tmp 0)),og 19 17 false .bool (.slc true 0 (.tmp 18) none (some (.cst (.int .i64 2)))),og 20 17 false .bool (.bin false .eql (.tmp 19) (.cst (.str [46,46]))),og 21 8 true .bool (.pick (.tmp 17) (.cst (.bool true)) (.tmp 20)),oo 22 (.pick (.tmp 8) (.tmp 21) (.cst (.bool false)))]
def Ag2:List TOp:=[ot 23 (.st 8) (.build [.pv (.int .i64 0),.pv (.int .i64 0),.pv (.int .i64 0)] [(0,1,(.cst (.int .i64 3))),(1,1,(.cst (.int .i64 2)))]),on (.store 3 (.tmp 2) (.tmp 23))]
def Em:Kp:=⟨[],[(2,false)],[(.loc 2 0,false)],[],[]⟩
def Ag3:List TOp:=[oo 3 (.mov (.cst (.str [123,125,40,41,91,93,59,58,44,37,61,60,62,43,45,42,47])))]
def Ag4:List TOp:=[oo 4 (.mov (.cst (.int .i64 0)))]
def Ag5:List TOp:=[oo 24 (.mov (.tmp 4)),oo 25 (.mov (.tmp 3)),oo 26 (.len true (.tmp 25)),oo 27 (.bin false .lss (.tmp 24) (.tmp 26))]
def Ag6:List TOp:=[oo 30 (.mov (.tmp 3)),oo 31 (.mov (.tmp 4)),oo 32 (.sidx (.tmp 30) (.tmp 31)),oo 33 (.mov (.tmp 0)),oo 34 (.sidx (.tmp 33) (.cst (.int .i64 0))),oo 35 (.bin false .eql (.tmp 32) (.tmp 34))]
def Ag7:List TOp:=[ot 36 (.st 8) (.build [.pv (.int .i64 0),.pv (.int .i64 0),.pv (.int .i64 0)] [(0,1,(.cst (.int .i64 3))),(1,1,(.cst (.int .i64 1)))]),on (.store 3 (.tmp 2) (.tmp 36))]
def Ag8:List TOp:=[oo 28 (.mov (.tmp 4)),oo 29 (.bin false .add (.tmp 28) (.cst (.int .i64 1))),oo 4 (.mov (.tmp 29))]
def Adb:DC:=(.seq (.seq (.ops Ag5) (.cond (.tmp 27) .skip (.exit 0))) (.seq (.pass 1 (.seq (.draw [] Ag6) (.cond (.tmp 35) (.free (.seq (.ops Ag7) (.keep Em .ret))) .skip))) (.ops Ag8)))
def Ada:Kp:=⟨[],[(0,false),(2,false),(3,false),(4,false)],[(.loc 2 0,false)],[],[]⟩
def Add:Sig:=⟨[(0,none),(2,some (.ptr (.loc 2 0) 0)),(3,none),(4,some (.ty (.int .i64)))],[(.loc 2 0,(.box [none,none,none]))],[(.int .i64)],[],[]⟩
def Ade:Sig:=⟨[(2,some (.ptr (.loc 2 0) 0))],[(.loc 2 0,(.box [none,none,none]))],[],[],[]⟩
def Adc:List TOp:=[ot 37 (.st 8) (.build [.pv (.int .i64 0),.pv (.int .i64 0),.pv (.int .i64 0)] [(2,1,(.cst (.int .i64 14)))]),on (.store 3 (.tmp 2) (.tmp 37))]
def Am8:TFd:=⟨1,[(.cell 2 true 3,(.st 8))],[],(.seq (.ops Ag0) (.seq (.seq (.ops Ag1) (.cond (.tmp 22) (.free (.seq (.ops Ag2) (.keep Em .ret))) .skip)) (.seq (.ops Ag3) (.seq (.seq (.ops Ag4) (.joinO Em Ade (.block 0 (.loop [0,2,3,4] [] Ada Add Adb)))) (.seq (.ops Adc) (.keep Em .ret))))))⟩
noncomputable def M0:Ent:=⟨[.ty .str],[],[.str],⟨(.ty (.st 8)),[],[],[(.st 8)],[],[]⟩,none,fun p=>Ge p⟩
theorem Af0:M0.ok Tryz.prog 87:=Au hm Tryz.func87 (fd:=Am8) (by kernel_rfl) (Ak (l:=[]) (y:=[]) trivial trivial) (by kernel_rfl) (fun p=>by kernel_rfl)
def Agq:List TOp:=[oo 2 (.alloc [.pv (.int .i64 0),.pv (.int .i64 0),.pv (.int .i64 0)])]
def Agr:List TOp:=[oo 3 (.mov (.tmp 0)),oo 4 (.sidx (.tmp 3) (.cst (.int .i64 0))),oo 5 (.call 0 0 (.cst (.fn 82)) [(.tmp 4)] [] [])]
def Ags:List TOp:=[oo 6 (.mov (.tmp 0)),oo 7 (.call 0 0 (.cst (.fn 83)) [(.tmp 6)] [] []),on (.store 3 (.tmp 2) (.tmp 7))]
def El:Kp:=⟨[],[(2,false)],[(.loc 2 0,false)],[],[]⟩
def Agt:List TOp:=[oo 8 (.mov (.tmp 0)),oo 9 (.sidx (.tmp 8) (.cst (.int .i64 0))),oo 10 (.call 0 0 (.cst (.fn 84)) [(.tmp 9)] [] [])]
def Agu:List TOp:=[oo 11 (.mov (.tmp 0)),oo 12 (.call 0 0 (.cst (.fn 85)) [(.tmp 11)] [] []),on (.store 3 (.tmp 2) (.tmp 12))]
def Agv:List TOp:=[oo 13 (.mov (.tmp 0)),oo 14 (.sidx (.tmp 13) (.cst (.int .i64 0))),oo 15 (.bin false .eql (.tmp 14) (.cst (.int .u8 34)))]
def Agw:List TOp:=[oo 16 (.mov (.tmp 0)),oo 17 (.call 0 0 (.cst (.fn 86)) [(.tmp 16)] [] []),on (.store 3 (.tmp 2) (.tmp 17))]
def Agx:List TOp:=[oo 18 (.mov (.tmp 0)),oo 19 (.call 0 0 (.cst (.fn 87)) [(.tmp 18)] [] []),on (.store 3 (.tmp 2) (.tmp 19))]
def Am7:TFd:=⟨1,[(.cell 2 true 3,(.st 8))],[],(.seq (.ops Agq) (.seq (.seq (.ops Agr) (.cond (.tmp 5) (.free (.seq (.ops Ags) (.keep El .ret))) .skip)) (.seq (.seq (.ops Agt) (.cond (.tmp 10) (.free (.seq (.ops Agu) (.keep El .ret))) .skip)) (.seq (.seq (.ops Agv) (.cond (.tmp 15) (.free (.seq (.ops Agw) (.keep El .ret))) .skip)) (.seq (.ops Agx) (.keep El .ret))))))⟩
noncomputable def Mz:Ent:=⟨[.ty .str],[],[.str],⟨(.ty (.st 8)),[],[],[(.st 8)],[],[]⟩,none,fun p=>Gd p⟩
theorem Afz:Mz.ok Tryz.prog 51:=Au hm Tryz.func51 (fd:=Am7) (by kernel_rfl) (Ak (l:=[(82,Gc),(83,M1),(84,C7),(85,Jo),(86,Jp),(87,M0)]) (y:=[]) ⟨Iz,Af1,Dz,W3,W4,Af0,trivial⟩ trivial) (by kernel_rfl) (fun p=>by kernel_rfl)
def Anc:List TOp:=[oo 4 (.mov (.cst (.bool false)))]
def Ane:List TOp:=[oo 5 (.mov (.cst (.int .i64 0)))]
def Anf:List TOp:=[oo 6 (.mov (.tmp 5)),oo 7 (.mov (.tmp 0)),oo 8 (.len false (.tmp 7)),oo 9 (.bin false .lss (.tmp 6) (.tmp 8))]
def Ang:List TOp:=[oo 12 (.mov (.tmp 0)),oo 13 (.mov (.tmp 5)),oo 14 (.idx 1 (.tmp 12) (.tmp 13)),oo 15 (.load false 1 (.tmp 14)),oo 16 (.mov (.tmp 1)),oo 17 (.bin false .eql (.tmp 15) (.tmp 16))]
def Anh:List TOp:=[oo 4 (.mov (.cst (.bool true)))]
def Ph:Kp:=⟨[],[(4,false)],[],[],[]⟩
def Ani:List TOp:=[oo 10 (.mov (.tmp 5)),oo 11 (.bin false .add (.tmp 10) (.cst (.int .i64 1))),oo 5 (.mov (.tmp 11))]
def Anb:DC:=(.seq (.seq (.ops Anf) (.cond (.tmp 9) .skip (.exit 0))) (.seq (.pass 1 (.seq (.ops Ang) (.cond (.tmp 17) (.free (.seq (.ops Anh) (.keep Ph .ret))) .skip))) (.ops Ani)))
def Ana:Kp:=⟨[],[(0,false),(1,false),(5,false)],[],[],[]⟩
def Anj:Sig:=⟨[(0,none),(1,none),(5,some (.ty (.int .i64)))],[],[(.int .i64)],[],[]⟩
def Akp:Kp:=⟨[],[],[],[],[]⟩
def Akr:Sig:=⟨[],[],[],[],[]⟩
def Akq:List TOp:=[oo 4 (.mov (.cst (.bool false)))]
def Ar6:TFd:=⟨2,[(.tmp 4,.bool)],[],(.seq (.ops Anc) (.seq (.seq (.ops Ane) (.joinO Akp Akr (.block 0 (.loop [0,1,5] [] Ana Anj Anb)))) (.seq (.ops Akq) (.keep Ph .ret))))⟩
noncomputable def Qy:Ent:=⟨[.ty (.sl .str),.ty .str],[],[(.sl .str),.str],⟨(.ty .bool),[],[],[.bool],[],[]⟩,none,fun p=>Fl p.1 p.2⟩
theorem Am2:Qy.ok Tryz.prog 116:=Au hm Tryz.func116 (fd:=Ar6) (by kernel_rfl) (Ak (l:=[]) (y:=[]) trivial trivial) (by kernel_rfl) (fun p=>by kernel_rfl)
def Ak4:List TOp:=[oo 4 (.mov (.cst (.bool false)))]
def Ak5:List TOp:=[ot 7 .str (.lit false 1 [(.cst (.str [105,102])),(.cst (.str [116,104,101,110])),(.cst (.str [101,108,115,101])),(.cst (.str [97,110,100])),(.cst (.str [111,114])),(.cst (.str [110,111,116])),(.cst (.str [109,105,110])),(.cst (.str [109,97,120]))]),oo 8 (.mov (.tmp 0)),oo 9 (.call 0 0 (.cst (.fn 116)) [(.tmp 7),(.tmp 8)] [] []),oo 5 (.mov (.tmp 9))]
def Ak6:List TOp:=[ot 10 .str (.lit false 1 [(.cst (.str [112,114,111,100,117,99,116])),(.cst (.str [98,97,115,105,115])),(.cst (.str [112,101,114,105,111,100])),(.cst (.str [116,105,101,114,115])),(.cst (.str [102,101,101])),(.cst (.str [109,105,110,105,109,117,109])),(.cst (.str [111,118,101,114,100,114,97,102,116])),(.cst (.str [110,111,116,105,99,101]))]),oo 11 (.mov (.tmp 0)),oo 12 (.call 0 0 (.cst (.fn 116)) [(.tmp 10),(.tmp 11)] [] []),oo 6 (.mov (.tmp 12))]
def Ak7:List TOp:=[oo 13 (.mov (.tmp 5)),oo 14 (.mov (.tmp 13)),og 15 14 false .bool (.mov (.tmp 1)),og 16 14 false .bool (.mov (.tmp 15)),og 17 16 true .bool (.mov (.tmp 6)),og 18 14 false .bool (.pick (.tmp 16) (.tmp 17) (.cst (.bool false))),oo 19 (.pick (.tmp 14) (.cst (.bool true)) (.tmp 18)),oo 4 (.mov (.tmp 19))]
def Ak3:Kp:=⟨[],[(4,false)],[],[],[]⟩
def Ap2:TFd:=⟨2,[(.tmp 4,.bool)],[],(.seq (.ops Ak4) (.seq (.ops Ak5) (.seq (.ops Ak6) (.seq (.ops Ak7) (.keep Ak3 .ret)))))⟩
noncomputable def Pd:Ent:=⟨[.ty .str,.ty .bool],[],[.str,.bool],⟨(.ty .bool),[],[],[.bool],[],[]⟩,none,fun p=>Ey p.1 p.2⟩
theorem Ajc:Pd.ok Tryz.prog 97:=Au hm Tryz.func97 (fd:=Ap2) (by kernel_rfl) (Ak (l:=[(116,Qy)]) (y:=[]) ⟨Am2,trivial⟩ trivial) (by kernel_rfl) (fun p=>by kernel_rfl)
def Akg:List TOp:=[oo 2 (.mov (.cst (.int .i64 0)))]
def Akh:List TOp:=[oo 3 (.mov (.tmp 0)),oo 4 (.bin false .lss (.tmp 3) (.cst (.int .i64 0))),oo 5 (.mov (.tmp 4)),og 6 5 false .bool (.mov (.tmp 0)),og 7 5 false .bool (.bin false .gtr (.tmp 6) (.cst (.int .i64 17))),oo 8 (.pick (.tmp 5) (.cst (.bool true)) (.tmp 7))]
def Aki:List TOp:=[oo 2 (.mov (.cst (.int .i64 (-1))))]
def Dm:Kp:=⟨[],[(2,false)],[],[],[]⟩
def Akj:List TOp:=[oo 9 (.mov (.tmp 0)),oo 10 (.bin false .lss (.tmp 9) (.cst (.int .i64 2)))]
def Akk:List TOp:=[oo 2 (.mov (.cst (.int .i64 0)))]
def Akl:List TOp:=[oo 11 (.mov (.tmp 0)),oo 12 (.bin false .eql (.tmp 11) (.cst (.int .i64 2))),oo 13 (.mov (.tmp 12)),og 14 13 false .bool (.mov (.tmp 0)),og 15 13 false .bool (.bin false .eql (.tmp 14) (.cst (.int .i64 14))),oo 16 (.pick (.tmp 13) (.cst (.bool true)) (.tmp 15))]
def Akm:List TOp:=[oo 2 (.mov (.cst (.int .i64 1)))]
def Akn:List TOp:=[oo 17 (.mov (.tmp 0)),oo 18 (.bin false .eql (.tmp 17) (.cst (.int .i64 15)))]
def Ako:List TOp:=[oo 2 (.mov (.cst (.int .i64 3)))]
def Ahj:List TOp:=[oo 2 (.mov (.cst (.int .i64 2)))]
def Ap0:TFd:=⟨1,[(.tmp 2,.bool)],[],(.seq (.ops Akg) (.seq (.seq (.ops Akh) (.cond (.tmp 8) (.free (.seq (.ops Aki) (.keep Dm .ret))) .skip)) (.seq (.seq (.ops Akj) (.cond (.tmp 10) (.free (.seq (.ops Akk) (.keep Dm .ret))) .skip)) (.seq (.seq (.ops Akl) (.cond (.tmp 16) (.free (.seq (.ops Akm) (.keep Dm .ret))) .skip)) (.seq (.seq (.ops Akn) (.cond (.tmp 18) (.free (.seq (.ops Ako) (.keep Dm .ret))) .skip)) (.seq (.ops Ahj) (.keep Dm .ret)))))))⟩
def H3:Ent:=⟨[.ty (.int .i64)],[],[(.int .i64)],⟨(.ty (.int .i64)),[],[],[(.int .i64)],[],[]⟩,none,fun p=>Ck p⟩
theorem M2:H3.ok Tryz.prog 39:=Au hm Tryz.func39 (fd:=Ap0) (by kernel_rfl) (Ak (l:=[]) (y:=[]) trivial trivial) (by kernel_rfl) (fun p=>by kernel_rfl)
def Ac2:List TOp:=[oo 1 (.box (.tmp 0)),oo 2 (.mov (.cst (.bool false)))]
def Ac3:List TOp:=[oo 4 (.fld 3 (.tmp 1)),oo 5 (.load false 1 (.tmp 4)),oo 6 (.bin false .eql (.tmp 5) (.cst (.str [])))]
def Ac4:List TOp:=[oo 2 (.mov (.cst (.bool false)))]
def J5:Kp:=⟨[],[(2,false)],[],[],[]⟩
def Ac5:List TOp:=[oo 7 (.fld 3 (.tmp 1)),oo 8 (.load false 1 (.tmp 7)),oo 9 (.call 0 0 (.cst (.fn 51)) [(.tmp 8)] [] []),oo 3 (.alloc [.pv (.int .i64 0),.pv (.int .i64 0),.pv (.int .i64 0)]),on (.store 3 (.tmp 3) (.tmp 9))]
def Ac6:List TOp:=[oo 10 (.fld 2 (.tmp 3)),oo 11 (.load false 1 (.tmp 10)),oo 12 (.bin false .eql (.tmp 11) (.cst (.int .i64 0))),oo 13 (.mov (.tmp 12)),og 14 13 true .bool (.fld 0 (.tmp 3)),og 15 13 true .bool (.load false 1 (.tmp 14)),og 16 13 true .bool (.fld 0 (.tmp 1)),og 17 13 true .bool (.load false 1 (.tmp 16)),og 18 13 true .bool (.bin false .eql (.tmp 15) (.tmp 17)),oo 19 (.pick (.tmp 13) (.tmp 18) (.cst (.bool false))),oo 20 (.mov (.tmp 19)),og 21 20 true .bool (.fld 1 (.tmp 3)),og 22 20 true .bool (.load false 1 (.tmp 21)),og 23 20 true .bool (.fld 3 (.tmp 1)),og 24 20 true .bool (.load false 1 (.tmp 23)),og 25 20 true .bool (.len true (.tmp 24)),og 26 20 true .bool (.bin false .eql (.tmp 22) (.tmp 25)),oo 27 (.pick (.tmp 20) (.tmp 26) (.cst (.bool false))),oo 2 (.mov (.tmp 27))]
def Akd:TFd:=⟨1,[(.tmp 2,.bool)],[],(.seq (.ops Ac2) (.seq (.seq (.ops Ac3) (.cond (.tmp 6) (.free (.seq (.ops Ac4) (.keep J5 .ret))) .skip)) (.seq (.ops Ac5) (.seq (.ops Ac6) (.keep J5 .ret)))))⟩
noncomputable def Gv:Ent:=⟨[.ty (.st 2)],[],[(.st 2)],⟨(.ty .bool),[],[],[.bool],[],[]⟩,none,fun p=>Dv p⟩
theorem Jm:Gv.ok Tryz.prog 105:=Au hm Tryz.func105 (fd:=Akd) (by kernel_rfl) (Ak (l:=[(51,Mz)]) (y:=[]) ⟨Afz,trivial⟩ trivial) (by kernel_rfl) (fun p=>by kernel_rfl)
def Aan:List TOp:=[oo 2 (.mov (.cst (.bool false)))]
def Aao:List TOp:=[oo 3 (.mov (.tmp 0)),ot 4 (.st 2) (.build [.pv (.int .i64 0),.pv (.int .i64 0),.pv (.int .i64 0),.pv (.str [])] [(0,1,(.cst (.int .i64 1))),(3,1,(.tmp 3))]),oo 5 (.call 0 0 (.cst (.fn 105)) [(.tmp 4)] [] []),oo 2 (.mov (.tmp 5))]
def Aam:Kp:=⟨[],[(2,false)],[],[],[]⟩
def Aif:TFd:=⟨1,[(.tmp 2,.bool)],[],(.seq (.ops Aan) (.seq (.ops Aao) (.keep Aam .ret)))⟩
noncomputable def Gi:Ent:=⟨[.ty .str],[],[.str],⟨(.ty .bool),[],[],[.bool],[],[]⟩,none,fun p=>Bk p⟩
theorem I0:Gi.ok Tryz.prog 80:=Au hm Tryz.func80 (fd:=Aif) (by kernel_rfl) (Ak (l:=[(105,Gv)]) (y:=[]) ⟨Jm,trivial⟩ trivial) (by kernel_rfl) (fun p=>by kernel_rfl)
def Aih:List TOp:=[oo 4 (.mov (.cst (.bool false)))]
def Aii:List TOp:=[oo 7 (.mov (.tmp 0)),ot 8 (.st 2) (.build [.pv (.int .i64 0),.pv (.int .i64 0),.pv (.int .i64 0),.pv (.str [])] [(0,1,(.cst (.int .i64 0))),(3,1,(.tmp 7))]),oo 9 (.call 0 0 (.cst (.fn 105)) [(.tmp 8)] [] []),oo 5 (.mov (.tmp 9))]
def Aij:List TOp:=[oo 10 (.mov (.tmp 0)),oo 11 (.mov (.tmp 1)),oo 12 (.call 0 0 (.cst (.fn 97)) [(.tmp 10),(.tmp 11)] [] []),oo 6 (.mov (.tmp 12))]
def Aik:List TOp:=[oo 13 (.mov (.tmp 5)),oo 14 (.mov (.tmp 13)),og 15 14 true .bool (.mov (.tmp 6)),og 16 14 true .bool (.un .not (.tmp 15)),oo 17 (.pick (.tmp 14) (.tmp 16) (.cst (.bool false))),oo 4 (.mov (.tmp 17))]
def Aig:Kp:=⟨[],[(4,false)],[],[],[]⟩
def Anm:TFd:=⟨2,[(.tmp 4,.bool)],[],(.seq (.ops Aih) (.seq (.ops Aii) (.seq (.ops Aij) (.seq (.ops Aik) (.keep Aig .ret)))))⟩
noncomputable def Hg:Ent:=⟨[.ty .str,.ty .bool],[],[.str,.bool],⟨(.ty .bool),[],[],[.bool],[],[]⟩,none,fun p=>Cs p.1 p.2⟩
theorem Lg:Hg.ok Tryz.prog 79:=Au hm Tryz.func79 (fd:=Anm) (by kernel_rfl) (Ak (l:=[(105,Gv),(97,Pd)]) (y:=[]) ⟨Jm,Ajc,trivial⟩ trivial) (by kernel_rfl) (fun p=>by kernel_rfl)
def Ah7:List TOp:=[oo 1 (.box (.tmp 0)),oo 2 (.mov (.cst (.bool false)))]
def Ah8:List TOp:=[oo 4 (.fld 0 (.tmp 1)),oo 5 (.load false 1 (.tmp 4)),oo 6 (.bin false .eql (.tmp 5) (.cst (.int .i64 0)))]
def Ah9:List TOp:=[oo 7 (.fld 1 (.tmp 1)),oo 8 (.load false 1 (.tmp 7)),oo 9 (.len true (.tmp 8)),oo 3 (.mov (.tmp 9))]
def Aia:List TOp:=[oo 10 (.mov (.tmp 3)),oo 11 (.bin false .gtr (.tmp 10) (.cst (.int .i64 0))),oo 12 (.mov (.tmp 11)),og 13 12 true .bool (.fld 1 (.tmp 1)),og 14 12 true .bool (.load false 1 (.tmp 13)),og 15 12 true .bool (.mov (.tmp 3)),og 16 12 true .bool (.bin false .sub (.tmp 15) (.cst (.int .i64 1))),og 17 12 true .bool (.sidx (.tmp 14) (.tmp 16)),og 18 12 true .bool (.bin false .eql (.tmp 17) (.cst (.int .u8 37))),oo 19 (.pick (.tmp 12) (.tmp 18) (.cst (.bool false)))]
def Aib:List TOp:=[oo 20 (.mov (.tmp 3)),oo 21 (.bin false .sub (.tmp 20) (.cst (.int .i64 1))),oo 3 (.mov (.tmp 21))]
def Ah6:Kp:=⟨[],[(1,false),(3,false)],[(.loc 1 0,false)],[],[]⟩
def Aie:Sig:=⟨[(1,some (.ptr (.loc 1 0) 0)),(3,some (.ty (.int .i64)))],[(.loc 1 0,(.box [none,none]))],[(.int .i64)],[],[]⟩
def Aic:List TOp:=[oo 22 (.fld 1 (.tmp 1)),oo 23 (.load false 1 (.tmp 22)),oo 24 (.mov (.tmp 3)),oo 25 (.slc true 0 (.tmp 23) none (some (.tmp 24))),oo 26 (.call 0 0 (.cst (.fn 80)) [(.tmp 25)] [] []),oo 2 (.mov (.tmp 26))]
def G3:Kp:=⟨[],[(2,false)],[],[],[]⟩
def Aid:List TOp:=[oo 27 (.fld 0 (.tmp 1)),oo 28 (.load false 1 (.tmp 27)),oo 29 (.bin false .eql (.tmp 28) (.cst (.int .i64 1)))]
def Aen:List TOp:=[oo 30 (.fld 1 (.tmp 1)),oo 31 (.load false 1 (.tmp 30)),oo 32 (.call 0 0 (.cst (.fn 79)) [(.tmp 31),(.cst (.bool false))] [] []),oo 2 (.mov (.tmp 32))]
def Aeo:List TOp:=[oo 33 (.fld 1 (.tmp 1)),oo 34 (.load false 1 (.tmp 33)),oo 35 (.bin false .eql (.tmp 34) (.cst (.str []))),oo 2 (.mov (.tmp 35))]
def Anl:TFd:=⟨1,[(.tmp 2,.bool)],[],(.seq (.ops Ah7) (.seq (.seq (.ops Ah8) (.cond (.tmp 6) (.free (.seq (.ops Ah9) (.seq (.seq (.ops Aia) (.join Ah6 Aie (.cond (.tmp 19) (.ops Aib) .skip))) (.seq (.ops Aic) (.keep G3 .ret))))) .skip)) (.seq (.seq (.ops Aid) (.cond (.tmp 29) (.free (.seq (.ops Aen) (.keep G3 .ret))) .skip)) (.seq (.ops Aeo) (.keep G3 .ret)))))⟩
noncomputable def M4:Ent:=⟨[.ty (.st 4)],[],[(.st 4)],⟨(.ty .bool),[],[],[.bool],[],[]⟩,none,fun p=>Ed p⟩
theorem Af3:M4.ok Tryz.prog 47:=Au hm Tryz.func47 (fd:=Anl) (by kernel_rfl) (Ak (l:=[(80,Gi),(79,Hg)]) (y:=[]) ⟨I0,Lg,trivial⟩ trivial) (by kernel_rfl) (fun p=>by kernel_rfl)
def Adh:List TOp:=[oo 2 (.mov (.cst (.int .i64 0)))]
def Adi:List TOp:=[oo 9 (.mov (.tmp 0)),oo 10 (.len false (.tmp 9)),oo 11 (.bin false .gtr (.tmp 10) (.cst (.int .i64 200)))]
def Adj:List TOp:=[oo 2 (.mov (.cst (.int .i64 0)))]
def D2:Kp:=⟨[],[(2,false)],[],[],[]⟩
def Adk:List TOp:=[oo 3 (.mov .nils)]
def Adl:List TOp:=[oo 12 (.mov (.tmp 0)),oo 13 (.len false (.tmp 12)),oo 14 (.bin false .sub (.tmp 13) (.cst (.int .i64 1))),oo 4 (.mov (.tmp 14))]
def Adm:List TOp:=[oo 15 (.mov (.tmp 4)),oo 16 (.bin false .geq (.tmp 15) (.cst (.int .i64 0)))]
def Adn:List TOp:=[oo 19 (.mov (.tmp 0)),oo 20 (.mov (.tmp 4)),oo 21 (.idx 2 (.tmp 19) (.tmp 20)),oo 22 (.fld 0 (.tmp 21)),oo 23 (.load false 1 (.tmp 22)),oo 24 (.call 0 0 (.cst (.fn 39)) [(.tmp 23)] [] []),oo 5 (.mov (.tmp 24))]
def Ado:List TOp:=[oo 25 (.mov (.tmp 0)),oo 26 (.mov (.tmp 4)),oo 27 (.idx 2 (.tmp 25) (.tmp 26)),ot 28 (.st 4) (.load true 2 (.tmp 27)),oo 29 (.call 0 0 (.cst (.fn 47)) [(.tmp 28)] [] []),oo 6 (.mov (.tmp 29))]
def Adp:List TOp:=[oo 30 (.mov (.tmp 5)),oo 31 (.bin false .lss (.tmp 30) (.cst (.int .i64 0))),oo 32 (.mov (.tmp 31)),og 33 32 false .bool (.mov (.tmp 6)),og 34 32 false .bool (.un .not (.tmp 33)),oo 35 (.pick (.tmp 32) (.cst (.bool true)) (.tmp 34)),oo 36 (.mov (.tmp 35)),og 37 36 false .bool (.mov (.tmp 5)),og 38 36 false .bool (.mov (.tmp 3)),og 39 36 false .bool (.len false (.tmp 38)),og 40 36 false .bool (.bin false .gtr (.tmp 37) (.tmp 39)),oo 41 (.pick (.tmp 36) (.cst (.bool true)) (.tmp 40))]
def Ym:List TOp:=[oo 2 (.mov (.cst (.int .i64 0)))]
def Yn:List TOp:=[oo 7 (.mov (.cst (.int .i64 0)))]
def Yo:List TOp:=[oo 8 (.mov (.cst (.int .i64 0)))]
def Yp:List TOp:=[oo 42 (.mov (.tmp 8)),oo 43 (.mov (.tmp 5)),oo 44 (.bin false .lss (.tmp 42) (.tmp 43))]
def Yq:List TOp:=[oo 47 (.mov (.tmp 7)),oo 48 (.mov (.tmp 3)),oo 49 (.mov (.tmp 3)),oo 50 (.len false (.tmp 49)),oo 51 (.bin false .sub (.tmp 50) (.cst (.int .i64 1))),oo 52 (.mov (.tmp 8)),oo 53 (.bin false .sub (.tmp 51) (.tmp 52)),oo 54 (.idx 1 (.tmp 48) (.tmp 53)),oo 55 (.load false 1 (.tmp 54)),oo 56 (.mm true (.tmp 47) [(.tmp 55)]),oo 7 (.mov (.tmp 56))]
def Yr:List TOp:=[oo 45 (.mov (.tmp 8)),oo 46 (.bin false .add (.tmp 45) (.cst (.int .i64 1))),oo 8 (.mov (.tmp 46))]
def Yk:DC:=(.seq (.seq (.ops Yp) (.cond (.tmp 44) .skip (.exit 2))) (.seq (.pass 3 (.ops Yq)) (.ops Yr)))
def Yg:Kp:=⟨[],[(0,false),(3,false),(4,false),(5,false),(7,false),(8,false)],[],[],[]⟩
def Yx:Sig:=⟨[(0,none),(3,none),(4,none),(5,none),(7,some (.ty (.int .i64))),(8,some (.ty (.int .i64)))],[],[(.int .i64),(.int .i64)],[],[]⟩
def Yh:Kp:=⟨[],[(0,false),(3,false),(4,false),(5,false),(7,false)],[],[],[]⟩
def Yy:Sig:=⟨[(0,none),(3,none),(4,none),(5,none),(7,some (.ty (.int .i64)))],[],[(.int .i64)],[],[]⟩
def Ys:List TOp:=[ot 57 (.int .i64) (.lit false 1 []),oo 58 (.mov (.tmp 3)),oo 59 (.mov (.tmp 3)),oo 60 (.len false (.tmp 59)),oo 61 (.mov (.tmp 5)),oo 62 (.bin false .sub (.tmp 60) (.tmp 61)),ot 63 (.int .i64) (.slc false 1 (.tmp 58) none (some (.tmp 62))),ot 64 (.int .i64) (.append 57 1 8 (.tmp 57) (.tmp 63)),oo 65 (.mov (.tmp 7)),oo 66 (.bin false .add (.tmp 65) (.cst (.int .i64 1))),ot 67 (.int .i64) (.lit false 1 [(.tmp 66)]),ot 68 (.int .i64) (.append 64 1 8 (.tmp 64) (.tmp 67)),oo 3 (.mov (.tmp 68))]
def Yt:List TOp:=[oo 17 (.mov (.tmp 4)),oo 18 (.bin false .sub (.tmp 17) (.cst (.int .i64 1))),oo 4 (.mov (.tmp 18))]
def Yl:DC:=(.seq (.seq (.ops Adm) (.cond (.tmp 16) .skip (.exit 0))) (.seq (.pass 1 (.seq (.ops Adn) (.seq (.ops Ado) (.seq (.seq (.ops Adp) (.cond (.tmp 41) (.free (.seq (.ops Ym) (.keep D2 .ret))) .skip)) (.seq (.ops Yn) (.seq (.seq (.ops Yo) (.join Yh Yy (.block 2 (.loop [0,3,4,5,7,8] [] Yg Yx Yk)))) (.ops Ys))))))) (.ops Yt)))
def Yi:Kp:=⟨[.loc 64 0],[(0,false),(3,true),(4,false)],[],[],[]⟩
def Yz:Sig:=⟨[(0,none),(3,some (.ty (.sl (.int .i64)))),(4,some (.ty (.int .i64)))],[],[(.sl (.int .i64)),(.int .i64)],[],[]⟩
def Yj:Kp:=⟨[],[(3,false)],[],[],[]⟩
def Y0:Sig:=⟨[(3,some (.ty (.sl (.int .i64))))],[],[(.sl (.int .i64))],[],[]⟩
def Yu:List TOp:=[oo 69 (.mov (.tmp 3)),oo 70 (.len false (.tmp 69)),oo 71 (.bin false .neq (.tmp 70) (.cst (.int .i64 1))),oo 72 (.mov (.tmp 71)),og 73 72 false .bool (.mov (.tmp 3)),og 74 72 false .bool (.idx 1 (.tmp 73) (.cst (.int .i64 0))),og 75 72 false .bool (.load false 1 (.tmp 74)),og 76 72 false .bool (.bin false .gtr (.tmp 75) (.cst (.int .i64 24))),oo 77 (.pick (.tmp 72) (.cst (.bool true)) (.tmp 76))]
def Yv:List TOp:=[oo 2 (.mov (.cst (.int .i64 0)))]
def Yw:List TOp:=[oo 78 (.mov (.tmp 3)),oo 79 (.idx 1 (.tmp 78) (.cst (.int .i64 0))),oo 80 (.load false 1 (.tmp 79)),oo 2 (.mov (.tmp 80))]
def Akf:TFd:=⟨1,[(.tmp 2,.bool)],[],(.seq (.ops Adh) (.seq (.seq (.ops Adi) (.cond (.tmp 11) (.free (.seq (.ops Adj) (.keep D2 .ret))) .skip)) (.seq (.ops Adk) (.seq (.seq (.ops Adl) (.joinO Yj Y0 (.block 0 (.loop [0,3,4] [] Yi Yz Yl)))) (.seq (.seq (.ops Yu) (.cond (.tmp 77) (.free (.seq (.ops Yv) (.keep D2 .ret))) .skip)) (.seq (.ops Yw) (.keep D2 .ret)))))))⟩
noncomputable def Ek:Ent:=⟨[.ty (.sl (.st 4))],[],[(.sl (.st 4))],⟨(.ty (.int .i64)),[],[],[(.int .i64)],[],[]⟩,none,fun p=>Cg p⟩
theorem Gg:Ek.ok Tryz.prog 22:=Au hm Tryz.func22 (fd:=Akf) (by kernel_rfl) (Ak (l:=[(39,H3),(47,M4)]) (y:=[]) ⟨M2,Af3,trivial⟩ trivial) (by kernel_rfl) (fun p=>by kernel_rfl)
def Ahx:List TOp:=[oo 2 (.box (.tmp 0)),oo 3 (.box (.tmp 1)),oo 4 (.mov (.cst (.bool false)))]
def Ahy:List TOp:=[oo 7 (.fld 5 (.tmp 2)),oo 8 (.load false 1 (.tmp 7)),oo 9 (.fld 5 (.tmp 3)),oo 10 (.load false 1 (.tmp 9)),oo 11 (.call 0 0 (.cst (.fn 11)) [(.tmp 8),(.tmp 10)] [] []),oo 5 (.mov (.tmp 11))]
def Ahz:List TOp:=[oo 12 (.mov (.tmp 5)),oo 13 (.un .not (.tmp 12)),oo 14 (.mov (.tmp 13)),og 15 14 false .bool (.fld 4 (.tmp 2)),og 16 14 false .bool (.load false 1 (.tmp 15)),og 17 14 false .bool (.len false (.tmp 16)),og 18 14 false .bool (.fld 4 (.tmp 3)),og 19 14 false .bool (.load false 1 (.tmp 18)),og 20 14 false .bool (.len false (.tmp 19)),og 21 14 false .bool (.bin false .neq (.tmp 17) (.tmp 20)),oo 22 (.pick (.tmp 14) (.cst (.bool true)) (.tmp 21))]
def Ah0:List TOp:=[oo 4 (.mov (.cst (.bool false)))]
def G2:Kp:=⟨[],[(4,false)],[],[],[]⟩
def Ah1:List TOp:=[oo 6 (.mov (.cst (.int .i64 0)))]
def Ah2:List TOp:=[oo 23 (.mov (.tmp 6)),oo 24 (.fld 4 (.tmp 2)),oo 25 (.load false 1 (.tmp 24)),oo 26 (.len false (.tmp 25)),oo 27 (.bin false .lss (.tmp 23) (.tmp 26))]
def Ah3:List TOp:=[oo 30 (.fld 4 (.tmp 2)),oo 31 (.load false 1 (.tmp 30)),oo 32 (.mov (.tmp 6)),oo 33 (.idx 2 (.tmp 31) (.tmp 32)),ot 34 (.st 6) (.load true 2 (.tmp 33)),oo 35 (.fld 4 (.tmp 3)),oo 36 (.load false 1 (.tmp 35)),oo 37 (.mov (.tmp 6)),oo 38 (.idx 2 (.tmp 36) (.tmp 37)),ot 39 (.st 6) (.load true 2 (.tmp 38)),oo 40 (.eqs true [.s,.s] (.tmp 34) (.tmp 39))]
def Ah4:List TOp:=[oo 4 (.mov (.cst (.bool false)))]
def Ah5:List TOp:=[oo 28 (.mov (.tmp 6)),oo 29 (.bin false .add (.tmp 28) (.cst (.int .i64 1))),oo 6 (.mov (.tmp 29))]
def Aea:DC:=(.seq (.seq (.ops Ah2) (.cond (.tmp 27) .skip (.exit 0))) (.seq (.pass 1 (.seq (.draw [] Ah3) (.cond (.tmp 40) (.free (.seq (.ops Ah4) (.keep G2 .ret))) .skip))) (.ops Ah5)))
def Ad8:Kp:=⟨[],[(2,false),(3,false),(6,false)],[(.loc 2 0,false),(.loc 3 0,false)],[],[]⟩
def Aec:Sig:=⟨[(2,some (.ptr (.loc 2 0) 0)),(3,some (.ptr (.loc 3 0) 0)),(6,some (.ty (.int .i64)))],[(.loc 2 0,(.box [none,none,none,none,none,none,none,none,none])),(.loc 3 0,(.box [none,none,none,none,none,none,none,none,none]))],[(.int .i64)],[],[]⟩
def Ad9:Kp:=⟨[],[(2,false),(3,false)],[(.loc 2 0,false),(.loc 3 0,false)],[],[]⟩
def Aed:Sig:=⟨[(2,some (.ptr (.loc 2 0) 0)),(3,some (.ptr (.loc 3 0) 0))],[(.loc 2 0,(.box [none,none,none,none,none,none,none,none,none])),(.loc 3 0,(.box [none,none,none,none,none,none,none,none,none]))],[],[],[]⟩
def Aeb:List TOp:=[oo 41 (.fld 0 (.tmp 2)),oo 42 (.load false 1 (.tmp 41)),oo 43 (.fld 0 (.tmp 3)),oo 44 (.load false 1 (.tmp 43)),oo 45 (.bin false .eql (.tmp 42) (.tmp 44)),oo 46 (.mov (.tmp 45)),og 47 46 true .bool (.fld 1 (.tmp 2)),og 48 46 true .bool (.load false 1 (.tmp 47)),og 49 46 true .bool (.fld 1 (.tmp 3)),og 50 46 true .bool (.load false 1 (.tmp 49)),og 51 46 true .bool (.bin false .eql (.tmp 48) (.tmp 50)),oo 52 (.pick (.tmp 46) (.tmp 51) (.cst (.bool false))),oo 53 (.mov (.tmp 52)),og 54 53 true .bool (.fld 2 (.tmp 2)),og 55 53 true .bool (.load false 1 (.tmp 54)),og 56 53 true .bool (.fld 2 (.tmp 3)),og 57 53 true .bool (.load false 1 (.tmp 56)),og 58 53 true .bool (.bin false .eql (.tmp 55) (.tmp 57)),oo 59 (.pick (.tmp 53) (.tmp 58) (.cst (.bool false))),oo 60 (.mov (.tmp 59)),og 61 60 true .bool (.fld 3 (.tmp 2)),og 62 60 true .bool (.load false 1 (.tmp 61)),og 63 60 true .bool (.fld 3 (.tmp 3)),og 64 60 true .bool (.load false 1 (.tmp 63)),og 65 60 true .bool (.bin false .eql (.tmp 62) (.tmp 64)),oo 66 (.pick (.tmp 60) (.tmp 65) (.cst (.bool false))),oo 67 (.mov (.tmp 66)),og 68 67 true .bool (.fld 6 (.tmp 2)),og 69 67 true .bool (.load false 1 (.tmp 68)),og 70 67 true .bool (.fld 6 (.tmp 3)),og 71 67 true .bool (.load false 1 (.tmp 70)),og 72 67 true .bool (.bin false .eql (.tmp 69) (.tmp 71)),oo 73 (.pick (.tmp 67) (.tmp 72) (.cst (.bool false))),oo 74 (.mov (.tmp 73)),og 75 74 true .bool (.fld 7 (.tmp 2)),og 76 74 true .bool (.load false 1 (.tmp 75)),og 77 74 true .bool (.fld 7 (.tmp 3)),og 78 74 true .bool (.load false 1 (.tmp 77)),og 79 74 true .bool (.bin false .eql (.tmp 76) (.tmp 78)),oo 80 (.pick (.tmp 74) (.tmp 79) (.cst (.bool false))),oo 81 (.mov (.tmp 80)),og 82 81 true .bool (.fld 8 (.tmp 2)),og 83 81 true .bool (.load false 1 (.tmp 82)),og 84 81 true .bool (.fld 8 (.tmp 3)),og 85 81 true .bool (.load false 1 (.tmp 84)),og 86 81 true .bool (.bin false .eql (.tmp 83) (.tmp 85)),oo 87 (.pick (.tmp 81) (.tmp 86) (.cst (.bool false))),oo 4 (.mov (.tmp 87))]
def Ank:TFd:=⟨2,[(.tmp 4,.bool)],[],(.seq (.ops Ahx) (.seq (.ops Ahy) (.seq (.seq (.ops Ahz) (.cond (.tmp 22) (.free (.seq (.ops Ah0) (.keep G2 .ret))) .skip)) (.seq (.seq (.ops Ah1) (.joinO Ad9 Aed (.block 0 (.loop [2,3,6] [] Ad8 Aec Aea)))) (.seq (.ops Aeb) (.keep G2 .ret))))))⟩
noncomputable def M3:Ent:=⟨[.ty (.st 7),.ty (.st 7)],[],[(.st 7),(.st 7)],⟨(.ty .bool),[],[],[.bool],[],[]⟩,none,fun p=>Gh p.1 p.2⟩
theorem Af2:M3.ok Tryz.prog 25:=Au hm Tryz.func25 (fd:=Ank) (by kernel_rfl) (Ak (l:=[(11,Gw)]) (y:=[]) ⟨Jq,trivial⟩ trivial) (by kernel_rfl) (fun p=>by kernel_rfl)
def Af7:List TOp:=[oo 2 (.mov (.cst (.bool false)))]
def Af8:List TOp:=[oo 4 (.mov (.tmp 0)),oo 5 (.len false (.tmp 4)),oo 6 (.bin false .gtr (.tmp 5) (.cst (.int .i64 300)))]
def Af9:List TOp:=[oo 2 (.mov (.cst (.bool false)))]
def Gz:Kp:=⟨[],[(2,false)],[],[],[]⟩
def Aga:List TOp:=[oo 3 (.mov (.cst (.int .i64 0)))]
def Agb:List TOp:=[oo 7 (.mov (.tmp 3)),oo 8 (.mov (.tmp 0)),oo 9 (.len false (.tmp 8)),oo 10 (.bin false .lss (.tmp 7) (.tmp 9))]
def Agc:List TOp:=[oo 13 (.mov (.tmp 0)),oo 14 (.mov (.tmp 3)),oo 15 (.idx 2 (.tmp 13) (.tmp 14)),oo 16 (.fld 1 (.tmp 15)),oo 17 (.load false 1 (.tmp 16)),oo 18 (.len true (.tmp 17)),oo 19 (.bin false .gtr (.tmp 18) (.cst (.int .i64 300)))]
def Agd:List TOp:=[oo 2 (.mov (.cst (.bool false)))]
def Age:List TOp:=[oo 11 (.mov (.tmp 3)),oo 12 (.bin false .add (.tmp 11) (.cst (.int .i64 1))),oo 3 (.mov (.tmp 12))]
def Af6:DC:=(.seq (.seq (.ops Agb) (.cond (.tmp 10) .skip (.exit 0))) (.seq (.pass 1 (.seq (.ops Agc) (.cond (.tmp 19) (.free (.seq (.ops Agd) (.keep Gz .ret))) .skip))) (.ops Age)))
def Acg:Kp:=⟨[],[(0,false),(3,false)],[],[],[]⟩
def Acj:Sig:=⟨[(0,none),(3,some (.ty (.int .i64)))],[],[(.int .i64)],[],[]⟩
def Ach:Kp:=⟨[],[],[],[],[]⟩
def Ack:Sig:=⟨[],[],[],[],[]⟩
def Aci:List TOp:=[oo 2 (.mov (.cst (.bool true)))]
def Am5:TFd:=⟨1,[(.tmp 2,.bool)],[],(.seq (.ops Af7) (.seq (.seq (.ops Af8) (.cond (.tmp 6) (.free (.seq (.ops Af9) (.keep Gz .ret))) .skip)) (.seq (.seq (.ops Aga) (.joinO Ach Ack (.block 0 (.loop [0,3] [] Acg Acj Af6)))) (.seq (.ops Aci) (.keep Gz .ret)))))⟩
noncomputable def Hf:Ent:=⟨[.ty (.sl (.st 4))],[],[(.sl (.st 4))],⟨(.ty .bool),[],[],[.bool],[],[]⟩,none,fun p=>Eb p⟩
theorem Ld:Hf.ok Tryz.prog 15:=Au hm Tryz.func15 (fd:=Am5) (by kernel_rfl) (Ak (l:=[]) (y:=[]) trivial trivial) (by kernel_rfl) (fun p=>by kernel_rfl)
def Agf:List TOp:=[oo 1 (.box (.tmp 0)),oo 2 (.mov (.cst (.bool false)))]
def Agg:List TOp:=[oo 5 (.fld 5 (.tmp 1)),oo 6 (.load false 1 (.tmp 5)),oo 7 (.call 0 0 (.cst (.fn 15)) [(.tmp 6)] [] []),oo 3 (.mov (.tmp 7))]
def Agh:List TOp:=[oo 8 (.mov (.tmp 3)),oo 9 (.un .not (.tmp 8)),oo 10 (.mov (.tmp 9)),og 11 10 false .bool (.fld 4 (.tmp 1)),og 12 10 false .bool (.load false 1 (.tmp 11)),og 13 10 false .bool (.len false (.tmp 12)),og 14 10 false .bool (.bin false .gtr (.tmp 13) (.cst (.int .i64 300))),oo 15 (.pick (.tmp 10) (.cst (.bool true)) (.tmp 14)),oo 16 (.mov (.tmp 15)),og 17 16 false .bool (.fld 0 (.tmp 1)),og 18 16 false .bool (.load false 1 (.tmp 17)),og 19 16 false .bool (.len true (.tmp 18)),og 20 16 false .bool (.fld 1 (.tmp 1)),og 21 16 false .bool (.load false 1 (.tmp 20)),og 22 16 false .bool (.len true (.tmp 21)),og 23 16 false .bool (.bin false .add (.tmp 19) (.tmp 22)),og 24 16 false .bool (.fld 2 (.tmp 1)),og 25 16 false .bool (.load false 1 (.tmp 24)),og 26 16 false .bool (.len true (.tmp 25)),og 27 16 false .bool (.bin false .add (.tmp 23) (.tmp 26)),og 28 16 false .bool (.fld 3 (.tmp 1)),og 29 16 false .bool (.load false 1 (.tmp 28)),og 30 16 false .bool (.len true (.tmp 29)),og 31 16 false .bool (.bin false .add (.tmp 27) (.tmp 30)),og 32 16 false .bool (.fld 6 (.tmp 1)),og 33 16 false .bool (.load false 1 (.tmp 32)),og 34 16 false .bool (.len true (.tmp 33)),og 35 16 false .bool (.bin false .add (.tmp 31) (.tmp 34)),og 36 16 false .bool (.fld 7 (.tmp 1)),og 37 16 false .bool (.load false 1 (.tmp 36)),og 38 16 false .bool (.len true (.tmp 37)),og 39 16 false .bool (.bin false .add (.tmp 35) (.tmp 38)),og 40 16 false .bool (.fld 8 (.tmp 1)),og 41 16 false .bool (.load false 1 (.tmp 40)),og 42 16 false .bool (.len true (.tmp 41)),og 43 16 false .bool (.bin false .add (.tmp 39) (.tmp 42)),og 44 16 false .bool (.bin false .gtr (.tmp 43) (.cst (.int .i64 300))),oo 45 (.pick (.tmp 16) (.cst (.bool true)) (.tmp 44))]
def Agi:List TOp:=[oo 2 (.mov (.cst (.bool false)))]
def G0:Kp:=⟨[],[(2,false)],[],[],[]⟩
def Agj:List TOp:=[oo 4 (.mov (.cst (.int .i64 0)))]
def Agk:List TOp:=[oo 46 (.mov (.tmp 4)),oo 47 (.fld 4 (.tmp 1)),oo 48 (.load false 1 (.tmp 47)),oo 49 (.len false (.tmp 48)),oo 50 (.bin false .lss (.tmp 46) (.tmp 49))]
def Agl:List TOp:=[oo 53 (.fld 4 (.tmp 1)),oo 54 (.load false 1 (.tmp 53)),oo 55 (.mov (.tmp 4)),oo 56 (.idx 2 (.tmp 54) (.tmp 55)),oo 57 (.fld 0 (.tmp 56)),oo 58 (.load false 1 (.tmp 57)),oo 59 (.len true (.tmp 58)),oo 60 (.fld 4 (.tmp 1)),oo 61 (.load false 1 (.tmp 60)),oo 62 (.mov (.tmp 4)),oo 63 (.idx 2 (.tmp 61) (.tmp 62)),oo 64 (.fld 1 (.tmp 63)),oo 65 (.load false 1 (.tmp 64)),oo 66 (.len true (.tmp 65)),oo 67 (.bin false .add (.tmp 59) (.tmp 66)),oo 68 (.bin false .gtr (.tmp 67) (.cst (.int .i64 300)))]
def Agm:List TOp:=[oo 2 (.mov (.cst (.bool false)))]
def Agn:List TOp:=[oo 51 (.mov (.tmp 4)),oo 52 (.bin false .add (.tmp 51) (.cst (.int .i64 1))),oo 4 (.mov (.tmp 52))]
def Acy:DC:=(.seq (.seq (.ops Agk) (.cond (.tmp 50) .skip (.exit 0))) (.seq (.pass 1 (.seq (.draw [] Agl) (.cond (.tmp 68) (.free (.seq (.ops Agm) (.keep G0 .ret))) .skip))) (.ops Agn)))
def Acw:Kp:=⟨[],[(1,false),(4,false)],[(.loc 1 0,false)],[],[]⟩
def Ac0:Sig:=⟨[(1,some (.ptr (.loc 1 0) 0)),(4,some (.ty (.int .i64)))],[(.loc 1 0,(.box [none,none,none,none,none,none,none,none,none]))],[(.int .i64)],[],[]⟩
def Acx:Kp:=⟨[],[],[],[.loc 1 0],[]⟩
def Ac1:Sig:=⟨[],[],[],[],[]⟩
def Acz:List TOp:=[oo 2 (.mov (.cst (.bool true)))]
def Am6:TFd:=⟨1,[(.tmp 2,.bool)],[],(.seq (.ops Agf) (.seq (.ops Agg) (.seq (.seq (.ops Agh) (.cond (.tmp 45) (.free (.seq (.ops Agi) (.keep G0 .ret))) .skip)) (.seq (.seq (.ops Agj) (.joinO Acx Ac1 (.block 0 (.loop [1,4] [] Acw Ac0 Acy)))) (.seq (.ops Acz) (.keep G0 .ret))))))⟩
noncomputable def My:Ent:=⟨[.ty (.st 7)],[],[(.st 7)],⟨(.ty .bool),[],[],[.bool],[],[]⟩,none,fun p=>Ec p⟩
theorem Afy:My.ok Tryz.prog 16:=Au hm Tryz.func16 (fd:=Am6) (by kernel_rfl) (Ak (l:=[(15,Hf)]) (y:=[]) ⟨Ld,trivial⟩ trivial) (by kernel_rfl) (fun p=>by kernel_rfl)
def Aee:List TOp:=[oo 2 (.mov (.cst (.int .i64 0))),oo 3 (.mov (.cst (.str []))),oo 4 (.mov (.cst (.int .i64 0))),oo 5 (.mov (.cst (.int .i64 0)))]
def Aef:List TOp:=[oo 6 (.mov (.tmp 0))]
def Aeg:List TOp:=[oo 8 (.bin false .eql (.tmp 6) (.cst (.int .i64 2))),oo 7 (.mov (.tmp 8))]
def Aeh:List TOp:=[oo 2 (.mov (.cst (.int .i64 7))),oo 3 (.mov (.cst (.str [45]))),oo 4 (.mov (.cst (.int .i64 7))),oo 5 (.mov (.cst (.int .i64 7)))]
def Ax:Kp:=⟨[],[(2,false),(3,false),(4,false),(5,false)],[],[],[]⟩
def Aei:List TOp:=[oo 10 (.bin false .eql (.tmp 6) (.cst (.int .i64 3))),oo 9 (.mov (.tmp 10))]
def Aej:List TOp:=[oo 2 (.mov (.cst (.int .i64 5))),oo 3 (.mov (.cst (.str [43]))),oo 4 (.mov (.cst (.int .i64 5))),oo 5 (.mov (.cst (.int .i64 6)))]
def Aek:List TOp:=[oo 12 (.bin false .eql (.tmp 6) (.cst (.int .i64 4))),oo 11 (.mov (.tmp 12))]
def Ael:List TOp:=[oo 2 (.mov (.cst (.int .i64 5))),oo 3 (.mov (.cst (.str [45]))),oo 4 (.mov (.cst (.int .i64 5))),oo 5 (.mov (.cst (.int .i64 6)))]
def Aem:List TOp:=[oo 14 (.bin false .eql (.tmp 6) (.cst (.int .i64 5))),oo 13 (.mov (.tmp 14))]
def Zw:List TOp:=[oo 2 (.mov (.cst (.int .i64 6))),oo 3 (.mov (.cst (.str [42]))),oo 4 (.mov (.cst (.int .i64 6))),oo 5 (.mov (.cst (.int .i64 7)))]
def Zx:List TOp:=[oo 16 (.bin false .eql (.tmp 6) (.cst (.int .i64 6))),oo 15 (.mov (.tmp 16))]
def Zy:List TOp:=[oo 2 (.mov (.cst (.int .i64 6))),oo 3 (.mov (.cst (.str [47]))),oo 4 (.mov (.cst (.int .i64 6))),oo 5 (.mov (.cst (.int .i64 7)))]
def Zz:List TOp:=[oo 18 (.bin false .eql (.tmp 6) (.cst (.int .i64 7))),oo 17 (.mov (.tmp 18))]
def Z0:List TOp:=[oo 2 (.mov (.cst (.int .i64 4))),oo 3 (.mov (.cst (.str [60]))),oo 4 (.mov (.cst (.int .i64 5))),oo 5 (.mov (.cst (.int .i64 5)))]
def Z1:List TOp:=[oo 20 (.bin false .eql (.tmp 6) (.cst (.int .i64 8))),oo 19 (.mov (.tmp 20))]
def Z2:List TOp:=[oo 2 (.mov (.cst (.int .i64 4))),oo 3 (.mov (.cst (.str [60,61]))),oo 4 (.mov (.cst (.int .i64 5))),oo 5 (.mov (.cst (.int .i64 5)))]
def Z3:List TOp:=[oo 22 (.bin false .eql (.tmp 6) (.cst (.int .i64 9))),oo 21 (.mov (.tmp 22))]
def Z4:List TOp:=[oo 2 (.mov (.cst (.int .i64 4))),oo 3 (.mov (.cst (.str [61]))),oo 4 (.mov (.cst (.int .i64 5))),oo 5 (.mov (.cst (.int .i64 5)))]
def Z5:List TOp:=[oo 24 (.bin false .eql (.tmp 6) (.cst (.int .i64 10))),oo 23 (.mov (.tmp 24))]
def Z6:List TOp:=[oo 2 (.mov (.cst (.int .i64 4))),oo 3 (.mov (.cst (.str [62]))),oo 4 (.mov (.cst (.int .i64 5))),oo 5 (.mov (.cst (.int .i64 5)))]
def Z7:List TOp:=[oo 26 (.bin false .eql (.tmp 6) (.cst (.int .i64 11))),oo 25 (.mov (.tmp 26))]
def Z8:List TOp:=[oo 2 (.mov (.cst (.int .i64 4))),oo 3 (.mov (.cst (.str [62,61]))),oo 4 (.mov (.cst (.int .i64 5))),oo 5 (.mov (.cst (.int .i64 5)))]
def Z9:List TOp:=[oo 28 (.bin false .eql (.tmp 6) (.cst (.int .i64 12))),oo 27 (.mov (.tmp 28))]
def Aaa:List TOp:=[oo 2 (.mov (.cst (.int .i64 2))),oo 3 (.mov (.cst (.str [97,110,100]))),oo 4 (.mov (.cst (.int .i64 2))),oo 5 (.mov (.cst (.int .i64 3)))]
def Aab:List TOp:=[oo 30 (.bin false .eql (.tmp 6) (.cst (.int .i64 13))),oo 29 (.mov (.tmp 30))]
def Aac:List TOp:=[oo 2 (.mov (.cst (.int .i64 1))),oo 3 (.mov (.cst (.str [111,114]))),oo 4 (.mov (.cst (.int .i64 1))),oo 5 (.mov (.cst (.int .i64 2)))]
def Aad:List TOp:=[oo 32 (.bin false .eql (.tmp 6) (.cst (.int .i64 14))),oo 31 (.mov (.tmp 32))]
def Aae:List TOp:=[oo 2 (.mov (.cst (.int .i64 3))),oo 3 (.mov (.cst (.str [110,111,116]))),oo 4 (.mov (.cst (.int .i64 3))),oo 5 (.mov (.cst (.int .i64 3)))]
def Aaf:List TOp:=[oo 34 (.bin false .eql (.tmp 6) (.cst (.int .i64 15))),oo 33 (.mov (.tmp 34))]
def Aag:List TOp:=[oo 2 (.mov (.cst (.int .i64 0))),oo 3 (.mov (.cst (.str [105,102]))),oo 4 (.mov (.cst (.int .i64 0))),oo 5 (.mov (.cst (.int .i64 0)))]
def Aah:List TOp:=[oo 36 (.bin false .eql (.tmp 6) (.cst (.int .i64 16))),oo 35 (.mov (.tmp 36))]
def Aai:List TOp:=[oo 2 (.mov (.cst (.int .i64 8))),oo 3 (.mov (.cst (.str [109,105,110]))),oo 4 (.mov (.cst (.int .i64 0))),oo 5 (.mov (.cst (.int .i64 0)))]
def Aaj:List TOp:=[oo 38 (.bin false .eql (.tmp 6) (.cst (.int .i64 17))),oo 37 (.mov (.tmp 38))]
def Aak:List TOp:=[oo 2 (.mov (.cst (.int .i64 8))),oo 3 (.mov (.cst (.str [109,97,120]))),oo 4 (.mov (.cst (.int .i64 0))),oo 5 (.mov (.cst (.int .i64 0)))]
def Aal:List TOp:=[oo 2 (.mov (.cst (.int .i64 8))),oo 3 (.mov (.cst (.str []))),oo 4 (.mov (.cst (.int .i64 0))),oo 5 (.mov (.cst (.int .i64 0)))]
def Ak9:TFd:=⟨1,[(.tmp 2,.bool),(.tmp 3,.bool),(.tmp 4,.bool),(.tmp 5,.bool)],[],(.seq (.ops Aee) (.seq (.seq (.ops Aef) (.pass 0 (.seq (.ops Aeg) (.cond (.tmp 7) (.free (.seq (.ops Aeh) (.keep Ax .ret))) (.seq (.ops Aei) (.cond (.tmp 9) (.free (.seq (.ops Aej) (.keep Ax .ret))) (.seq (.ops Aek) (.cond (.tmp 11) (.free (.seq (.ops Ael) (.keep Ax .ret))) (.seq (.ops Aem) (.cond (.tmp 13) (.free (.seq (.ops Zw) (.keep Ax .ret))) (.seq (.ops Zx) (.cond (.tmp 15) (.free (.seq (.ops Zy) (.keep Ax .ret))) (.seq (.ops Zz) (.cond (.tmp 17) (.free (.seq (.ops Z0) (.keep Ax .ret))) (.seq (.ops Z1) (.cond (.tmp 19) (.free (.seq (.ops Z2) (.keep Ax .ret))) (.seq (.ops Z3) (.cond (.tmp 21) (.free (.seq (.ops Z4) (.keep Ax .ret))) (.seq (.ops Z5) (.cond (.tmp 23) (.free (.seq (.ops Z6) (.keep Ax .ret))) (.seq (.ops Z7) (.cond (.tmp 25) (.free (.seq (.ops Z8) (.keep Ax .ret))) (.seq (.ops Z9) (.cond (.tmp 27) (.free (.seq (.ops Aaa) (.keep Ax .ret))) (.seq (.ops Aab) (.cond (.tmp 29) (.free (.seq (.ops Aac) (.keep Ax .ret))) (.seq (.ops Aad) (.cond (.tmp 31) (.free (.seq (.ops Aae) (.keep Ax .ret))) (.seq (.ops Aaf) (.cond (.tmp 33) (.free (.seq (.ops Aag) (.keep Ax .ret))) (.seq (.ops Aah) (.cond (.tmp 35) (.free (.seq (.ops Aai) (.keep Ax .ret))) (.seq (.ops Aaj) (.cond (.tmp 37) (.free (.seq (.ops Aak) (.keep Ax .ret))) .skip)))))))))))))))))))))))))))))))))) (.seq (.ops Aal) (.keep Ax .ret))))⟩
def Lf:Ent:=⟨[.ty (.int .i64)],[],[(.int .i64)],⟨(.tup [(.ty (.int .i64)),(.ty .str),(.ty (.int .i64)),(.ty (.int .i64))]),[],[],[(.int .i64),.str,(.int .i64),(.int .i64)],[],[]⟩,none,fun p=>C0 p⟩
theorem Abw:Lf.ok Tryz.prog 40:=Au hm Tryz.func40 (fd:=Ak9) (by kernel_rfl) (Ak (l:=[]) (y:=[]) trivial trivial) (by kernel_rfl) (fun p=>by kernel_rfl)
def S7:List TOp:=[oo 2 (.box (.tmp 0)),oo 4 (.mov (.cst (.str [])))]
def S8:List TOp:=[oo 5 (.fld 0 (.tmp 2)),oo 6 (.load false 1 (.tmp 5)),oo 7 (.mov (.tmp 1)),oo 8 (.bin false .lss (.tmp 6) (.tmp 7))]
def S9:List TOp:=[oo 9 (.fld 1 (.tmp 2)),oo 10 (.load false 1 (.tmp 9)),oo 11 (.bin false .add (.cst (.str [40,32])) (.tmp 10)),oo 12 (.bin false .add (.tmp 11) (.cst (.str [32,41]))),oo 4 (.mov (.tmp 12))]
def Hy:Kp:=⟨[],[(4,false)],[],[],[]⟩
def Ta:List TOp:=[oo 13 (.fld 1 (.tmp 2)),oo 14 (.load false 1 (.tmp 13)),oo 4 (.mov (.tmp 14))]
def Aap:TFd:=⟨2,[(.tmp 4,.bool)],[],(.seq (.ops S7) (.seq (.seq (.ops S8) (.cond (.tmp 8) (.free (.seq (.ops S9) (.keep Hy .ret))) .skip)) (.seq (.ops Ta) (.keep Hy .ret))))⟩
def Ib:Ent:=⟨[.ty (.st 10),.ty (.int .i64)],[],[(.st 10),(.int .i64)],⟨(.ty .str),[],[],[.str],[],[]⟩,none,fun p=>A2 p.1 p.2⟩
theorem Sw:Ib.ok Tryz.prog 41:=Au hm Tryz.func41 (fd:=Aap) (by kernel_rfl) (Ak (l:=[]) (y:=[]) trivial trivial) (by kernel_rfl) (fun p=>by kernel_rfl)
def Adz:List TOp:=[oo 2 (.mov (.cst (.str []))),oo 3 (.mov (.cst (.int .i64 0)))]
def Ad0:List TOp:=[oo 13 (.mov (.tmp 0)),oo 14 (.call 0 0 (.cst (.fn 22)) [(.tmp 13)] [] []),oo 15 (.bin false .eql (.tmp 14) (.cst (.int .i64 0)))]
def Ad1:List TOp:=[oo 2 (.mov (.cst (.str []))),oo 3 (.mov (.cst (.int .i64 1)))]
def J7:Kp:=⟨[],[(2,false),(3,false)],[],[],[]⟩
def Ad2:List TOp:=[oo 4 (.mov .nils)]
def Ad3:List TOp:=[oo 16 (.mov (.tmp 0)),oo 17 (.len false (.tmp 16)),oo 18 (.bin false .sub (.tmp 17) (.cst (.int .i64 1))),oo 5 (.mov (.tmp 18))]
def Ad4:List TOp:=[oo 19 (.mov (.tmp 5)),oo 20 (.bin false .geq (.tmp 19) (.cst (.int .i64 0)))]
def Ad5:List TOp:=[oo 23 (.mov (.tmp 0)),oo 24 (.mov (.tmp 5)),oo 25 (.idx 2 (.tmp 23) (.tmp 24)),oo 26 (.fld 0 (.tmp 25)),oo 27 (.load false 1 (.tmp 26)),oo 28 (.call 0 0 (.cst (.fn 39)) [(.tmp 27)] [] []),oo 6 (.mov (.tmp 28))]
def Ad6:List TOp:=[oo 30 (.mov (.tmp 0)),oo 31 (.mov (.tmp 5)),oo 32 (.idx 2 (.tmp 30) (.tmp 31)),oo 33 (.fld 0 (.tmp 32)),oo 34 (.load false 1 (.tmp 33)),oo 35 (.call 0 0 (.cst (.fn 40)) [(.tmp 34)] [] []),oo 29 (.mov (.tmp 35)),oo 36 (.ext 0 (.tmp 29)),oo 37 (.ext 1 (.tmp 29)),oo 38 (.ext 2 (.tmp 29)),oo 39 (.ext 3 (.tmp 29)),oo 7 (.mov (.tmp 36)),oo 8 (.mov (.tmp 37)),oo 9 (.mov (.tmp 38)),oo 10 (.mov (.tmp 39))]
def Ad7:List TOp:=[oo 40 (.mov (.tmp 4)),oo 41 (.len false (.tmp 40)),oo 42 (.bin false .sub (.tmp 41) (.cst (.int .i64 1))),oo 11 (.mov (.tmp 42))]
def Zd:List TOp:=[oo 43 (.mov (.tmp 0)),oo 44 (.mov (.tmp 5)),oo 45 (.idx 2 (.tmp 43) (.tmp 44)),oo 46 (.fld 1 (.tmp 45)),oo 47 (.load false 1 (.tmp 46)),oo 12 (.mov (.tmp 47))]
def Ze:List TOp:=[oo 48 (.mov (.tmp 6)),oo 49 (.bin false .eql (.tmp 48) (.cst (.int .i64 0))),oo 50 (.mov (.tmp 49)),og 51 50 true .bool (.mov (.tmp 12)),og 52 50 true .bool (.mov (.tmp 12)),og 53 50 true .bool (.len true (.tmp 52)),og 54 50 true .bool (.bin false .sub (.tmp 53) (.cst (.int .i64 1))),og 55 50 true .bool (.sidx (.tmp 51) (.tmp 54)),og 56 50 true .bool (.bin false .eql (.tmp 55) (.cst (.int .u8 37))),oo 57 (.pick (.tmp 50) (.tmp 56) (.cst (.bool false)))]
def Zf:List TOp:=[oo 58 (.mov (.tmp 12)),oo 59 (.mov (.tmp 12)),oo 60 (.len true (.tmp 59)),oo 61 (.bin false .sub (.tmp 60) (.cst (.int .i64 1))),oo 62 (.slc true 0 (.tmp 58) none (some (.tmp 61))),oo 63 (.bin false .add (.tmp 62) (.cst (.str [32,37]))),oo 12 (.mov (.tmp 63))]
def Jd:Kp:=⟨[],[(0,false),(4,false),(5,false),(6,false),(7,false),(8,false),(9,false),(10,false),(11,false),(12,false)],[],[],[]⟩
def Je:Sig:=⟨[(0,none),(4,none),(5,none),(6,none),(7,none),(8,none),(9,none),(10,none),(11,none),(12,some (.ty .str))],[],[.str],[],[]⟩
def Zg:List TOp:=[oo 64 (.mov (.tmp 6)),oo 65 (.bin false .eql (.tmp 64) (.cst (.int .i64 1)))]
def Zh:List TOp:=[oo 66 (.mov (.tmp 8)),oo 67 (.bin false .add (.tmp 66) (.cst (.str [32]))),oo 68 (.mov (.tmp 4)),oo 69 (.mov (.tmp 11)),oo 70 (.idx 2 (.tmp 68) (.tmp 69)),ot 71 (.st 10) (.load true 2 (.tmp 70)),oo 72 (.mov (.tmp 9)),oo 73 (.call 0 0 (.cst (.fn 41)) [(.tmp 71),(.tmp 72)] [] []),oo 74 (.bin false .add (.tmp 67) (.tmp 73)),oo 12 (.mov (.tmp 74))]
def Zi:List TOp:=[oo 75 (.mov (.tmp 6)),oo 76 (.bin false .eql (.tmp 75) (.cst (.int .i64 2))),oo 77 (.mov (.tmp 76)),og 78 77 true .bool (.mov (.tmp 0)),og 79 77 true .bool (.mov (.tmp 5)),og 80 77 true .bool (.idx 2 (.tmp 78) (.tmp 79)),og 81 77 true .bool (.fld 0 (.tmp 80)),og 82 77 true .bool (.load false 1 (.tmp 81)),og 83 77 true .bool (.bin false .lss (.tmp 82) (.cst (.int .i64 16))),oo 84 (.pick (.tmp 77) (.tmp 83) (.cst (.bool false)))]
def Zj:List TOp:=[oo 85 (.mov (.tmp 4)),oo 86 (.mov (.tmp 11)),oo 87 (.idx 2 (.tmp 85) (.tmp 86)),ot 88 (.st 10) (.load true 2 (.tmp 87)),oo 89 (.mov (.tmp 9)),oo 90 (.call 0 0 (.cst (.fn 41)) [(.tmp 88),(.tmp 89)] [] []),oo 91 (.bin false .add (.tmp 90) (.cst (.str [32]))),oo 92 (.mov (.tmp 8)),oo 93 (.bin false .add (.tmp 91) (.tmp 92)),oo 94 (.bin false .add (.tmp 93) (.cst (.str [32]))),oo 95 (.mov (.tmp 4)),oo 96 (.mov (.tmp 11)),oo 97 (.bin false .sub (.tmp 96) (.cst (.int .i64 1))),oo 98 (.idx 2 (.tmp 95) (.tmp 97)),ot 99 (.st 10) (.load true 2 (.tmp 98)),oo 100 (.mov (.tmp 10)),oo 101 (.call 0 0 (.cst (.fn 41)) [(.tmp 99),(.tmp 100)] [] []),oo 102 (.bin false .add (.tmp 94) (.tmp 101)),oo 12 (.mov (.tmp 102))]
def Y7:Kp:=⟨[],[(0,false),(4,false),(5,false),(6,false),(7,false),(8,false),(11,false),(12,false)],[],[],[]⟩
def Zr:Sig:=⟨[(0,none),(4,none),(5,none),(6,none),(7,none),(8,none),(11,none),(12,some (.ty .str))],[],[.str],[],[]⟩
def Zk:List TOp:=[oo 103 (.mov (.tmp 6)),oo 104 (.bin false .eql (.tmp 103) (.cst (.int .i64 2))),oo 105 (.mov (.tmp 104)),og 106 105 true .bool (.mov (.tmp 0)),og 107 105 true .bool (.mov (.tmp 5)),og 108 105 true .bool (.idx 2 (.tmp 106) (.tmp 107)),og 109 105 true .bool (.fld 0 (.tmp 108)),og 110 105 true .bool (.load false 1 (.tmp 109)),og 111 105 true .bool (.bin false .geq (.tmp 110) (.cst (.int .i64 16))),oo 112 (.pick (.tmp 105) (.tmp 111) (.cst (.bool false)))]
def Zl:List TOp:=[oo 113 (.mov (.tmp 8)),oo 114 (.bin false .add (.tmp 113) (.cst (.str [32,40,32]))),oo 115 (.mov (.tmp 4)),oo 116 (.mov (.tmp 11)),oo 117 (.idx 2 (.tmp 115) (.tmp 116)),oo 118 (.fld 1 (.tmp 117)),oo 119 (.load false 1 (.tmp 118)),oo 120 (.bin false .add (.tmp 114) (.tmp 119)),oo 121 (.bin false .add (.tmp 120) (.cst (.str [32,44,32]))),oo 122 (.mov (.tmp 4)),oo 123 (.mov (.tmp 11)),oo 124 (.bin false .sub (.tmp 123) (.cst (.int .i64 1))),oo 125 (.idx 2 (.tmp 122) (.tmp 124)),oo 126 (.fld 1 (.tmp 125)),oo 127 (.load false 1 (.tmp 126)),oo 128 (.bin false .add (.tmp 121) (.tmp 127)),oo 129 (.bin false .add (.tmp 128) (.cst (.str [32,41]))),oo 12 (.mov (.tmp 129))]
def Y8:Kp:=⟨[],[(0,false),(4,false),(5,false),(6,false),(7,false),(11,false),(12,false)],[],[],[]⟩
def Zs:Sig:=⟨[(0,none),(4,none),(5,none),(6,none),(7,none),(11,none),(12,some (.ty .str))],[],[.str],[],[]⟩
def Zm:List TOp:=[oo 130 (.mov (.tmp 6)),oo 131 (.bin false .eql (.tmp 130) (.cst (.int .i64 3)))]
def Zn:List TOp:=[oo 132 (.mov (.tmp 4)),oo 133 (.mov (.tmp 11)),oo 134 (.idx 2 (.tmp 132) (.tmp 133)),oo 135 (.fld 1 (.tmp 134)),oo 136 (.load false 1 (.tmp 135)),oo 137 (.bin false .add (.cst (.str [105,102,32])) (.tmp 136)),oo 138 (.bin false .add (.tmp 137) (.cst (.str [32,116,104,101,110,32]))),oo 139 (.mov (.tmp 4)),oo 140 (.mov (.tmp 11)),oo 141 (.bin false .sub (.tmp 140) (.cst (.int .i64 1))),oo 142 (.idx 2 (.tmp 139) (.tmp 141)),oo 143 (.fld 1 (.tmp 142)),oo 144 (.load false 1 (.tmp 143)),oo 145 (.bin false .add (.tmp 138) (.tmp 144)),oo 146 (.bin false .add (.tmp 145) (.cst (.str [32,101,108,115,101,32]))),oo 147 (.mov (.tmp 4)),oo 148 (.mov (.tmp 11)),oo 149 (.bin false .sub (.tmp 148) (.cst (.int .i64 2))),oo 150 (.idx 2 (.tmp 147) (.tmp 149)),oo 151 (.fld 1 (.tmp 150)),oo 152 (.load false 1 (.tmp 151)),oo 153 (.bin false .add (.tmp 146) (.tmp 152)),oo 12 (.mov (.tmp 153))]
def Y9:Kp:=⟨[],[(0,false),(4,false),(5,false),(6,false),(7,false),(12,false)],[],[],[]⟩
def Zt:Sig:=⟨[(0,none),(4,none),(5,none),(6,none),(7,none),(12,some (.ty .str))],[],[.str],[],[]⟩
def Zo:List TOp:=[ot 154 (.st 10) (.lit false 2 []),oo 155 (.mov (.tmp 4)),oo 156 (.mov (.tmp 4)),oo 157 (.len false (.tmp 156)),oo 158 (.mov (.tmp 6)),oo 159 (.bin false .sub (.tmp 157) (.tmp 158)),ot 160 (.st 10) (.slc false 2 (.tmp 155) none (some (.tmp 159))),ot 161 (.st 10) (.append 154 2 24 (.tmp 154) (.tmp 160)),oo 162 (.mov (.tmp 7)),oo 163 (.mov (.tmp 12)),ot 164 (.st 10) (.build [.pv (.int .i64 0),.pv (.str [])] [(0,1,(.tmp 162)),(1,1,(.tmp 163))]),ot 165 (.st 10) (.lit false 2 [(.tmp 164)]),ot 166 (.st 10) (.append 161 2 24 (.tmp 161) (.tmp 165)),oo 4 (.mov (.tmp 166))]
def Zp:List TOp:=[oo 21 (.mov (.tmp 5)),oo 22 (.bin false .sub (.tmp 21) (.cst (.int .i64 1))),oo 5 (.mov (.tmp 22))]
def Zc:DC:=(.seq (.seq (.ops Ad4) (.cond (.tmp 20) .skip (.exit 0))) (.seq (.pass 1 (.seq (.ops Ad5) (.seq (.ops Ad6) (.seq (.ops Ad7) (.seq (.ops Zd) (.seq (.seq (.ops Ze) (.join Jd Je (.cond (.tmp 57) (.ops Zf) .skip))) (.seq (.seq (.ops Zg) (.join Jd Je (.cond (.tmp 65) (.ops Zh) .skip))) (.seq (.seq (.ops Zi) (.join Y7 Zr (.cond (.tmp 84) (.draw [] Zj) .skip))) (.seq (.seq (.ops Zk) (.join Y8 Zs (.cond (.tmp 112) (.draw [] Zl) .skip))) (.seq (.seq (.ops Zm) (.join Y9 Zt (.cond (.tmp 131) (.draw [] Zn) .skip))) (.ops Zo))))))))))) (.ops Zp)))
def Za:Kp:=⟨[.loc 161 0],[(0,false),(4,true),(5,false)],[],[],[]⟩
def Zu:Sig:=⟨[(0,none),(4,some (.ty (.sl (.st 10)))),(5,some (.ty (.int .i64)))],[],[(.sl (.st 10)),(.int .i64)],[],[]⟩
def Zb:Kp:=⟨[],[(4,false)],[],[],[]⟩
def Zv:Sig:=⟨[(4,some (.ty (.sl (.st 10))))],[],[(.sl (.st 10))],[],[]⟩
def Zq:List TOp:=[oo 167 (.mov (.tmp 4)),oo 168 (.idx 2 (.tmp 167) (.cst (.int .i64 0))),oo 169 (.fld 1 (.tmp 168)),oo 170 (.load false 1 (.tmp 169)),oo 2 (.mov (.tmp 170)),oo 3 (.mov (.cst (.int .i64 0)))]
def Ak8:TFd:=⟨1,[(.tmp 2,.bool),(.tmp 3,.bool)],[],(.seq (.ops Adz) (.seq (.seq (.ops Ad0) (.cond (.tmp 15) (.free (.seq (.ops Ad1) (.keep J7 .ret))) .skip)) (.seq (.ops Ad2) (.seq (.seq (.ops Ad3) (.join Zb Zv (.block 0 (.loop [0,4,5] [] Za Zu Zc)))) (.seq (.ops Zq) (.keep J7 .ret))))))⟩
noncomputable def Gx:Ent:=⟨[.ty (.sl (.st 4))],[],[(.sl (.st 4))],⟨(.tup [(.ty .str),(.ty (.int .i64))]),[],[],[.str,(.int .i64)],[],[]⟩,none,fun p=>Ch p⟩
theorem Jr:Gx.ok Tryz.prog 18:=Au hm Tryz.func18 (fd:=Ak8) (by kernel_rfl) (Ak (l:=[(22,Ek),(39,H3),(40,Lf),(41,Ib)]) (y:=[]) ⟨Gg,M2,Abw,Sw,trivial⟩ trivial) (by kernel_rfl) (fun p=>by kernel_rfl)
def Aks:List TOp:=[oo 1 (.box (.tmp 0)),oo 2 (.mov (.cst (.bool false)))]
def Akt:List TOp:=[oo 13 (.fld 0 (.tmp 1)),oo 14 (.load false 1 (.tmp 13)),oo 15 (.call 0 0 (.cst (.fn 79)) [(.tmp 14),(.cst (.bool true))] [] []),oo 3 (.mov (.tmp 15))]
def Aku:List TOp:=[oo 16 (.fld 1 (.tmp 1)),oo 17 (.load false 1 (.tmp 16)),oo 18 (.call 0 0 (.cst (.fn 79)) [(.tmp 17),(.cst (.bool true))] [] []),oo 4 (.mov (.tmp 18))]
def Akv:List TOp:=[oo 19 (.fld 2 (.tmp 1)),oo 20 (.load false 1 (.tmp 19)),oo 21 (.call 0 0 (.cst (.fn 79)) [(.tmp 20),(.cst (.bool true))] [] []),oo 5 (.mov (.tmp 21))]
def Akw:List TOp:=[oo 22 (.fld 3 (.tmp 1)),oo 23 (.load false 1 (.tmp 22)),oo 24 (.call 0 0 (.cst (.fn 80)) [(.tmp 23)] [] []),oo 6 (.mov (.tmp 24))]
def Akx:List TOp:=[oo 25 (.fld 6 (.tmp 1)),oo 26 (.load false 1 (.tmp 25)),oo 27 (.call 0 0 (.cst (.fn 80)) [(.tmp 26)] [] []),oo 7 (.mov (.tmp 27))]
def Aky:List TOp:=[oo 28 (.fld 7 (.tmp 1)),oo 29 (.load false 1 (.tmp 28)),oo 30 (.call 0 0 (.cst (.fn 80)) [(.tmp 29)] [] []),oo 8 (.mov (.tmp 30))]
def Akz:List TOp:=[oo 31 (.fld 8 (.tmp 1)),oo 32 (.load false 1 (.tmp 31)),oo 33 (.call 0 0 (.cst (.fn 80)) [(.tmp 32)] [] []),oo 9 (.mov (.tmp 33))]
def Ak0:List TOp:=[oo 34 (.mov (.tmp 3)),oo 35 (.un .not (.tmp 34)),oo 36 (.mov (.tmp 35)),og 37 36 false .bool (.mov (.tmp 4)),og 38 36 false .bool (.un .not (.tmp 37)),oo 39 (.pick (.tmp 36) (.cst (.bool true)) (.tmp 38)),oo 40 (.mov (.tmp 39)),og 41 40 false .bool (.mov (.tmp 5)),og 42 40 false .bool (.un .not (.tmp 41)),oo 43 (.pick (.tmp 40) (.cst (.bool true)) (.tmp 42)),oo 44 (.mov (.tmp 43)),og 45 44 false .bool (.mov (.tmp 6)),og 46 44 false .bool (.un .not (.tmp 45)),oo 47 (.pick (.tmp 44) (.cst (.bool true)) (.tmp 46)),oo 48 (.mov (.tmp 47)),og 49 48 false .bool (.mov (.tmp 7)),og 50 48 false .bool (.un .not (.tmp 49)),oo 51 (.pick (.tmp 48) (.cst (.bool true)) (.tmp 50)),oo 52 (.mov (.tmp 51)),og 53 52 false .bool (.mov (.tmp 8)),og 54 52 false .bool (.un .not (.tmp 53)),oo 55 (.pick (.tmp 52) (.cst (.bool true)) (.tmp 54)),oo 56 (.mov (.tmp 55)),og 57 56 false .bool (.mov (.tmp 9)),og 58 56 false .bool (.un .not (.tmp 57)),oo 59 (.pick (.tmp 56) (.cst (.bool true)) (.tmp 58)),oo 60 (.mov (.tmp 59)),og 61 60 false .bool (.fld 4 (.tmp 1)),og 62 60 false .bool (.load false 1 (.tmp 61)),og 63 60 false .bool (.len false (.tmp 62)),og 64 60 false .bool (.bin false .lss (.tmp 63) (.cst (.int .i64 1))),oo 65 (.pick (.tmp 60) (.cst (.bool true)) (.tmp 64)),oo 66 (.mov (.tmp 65)),og 67 66 false .bool (.fld 4 (.tmp 1)),og 68 66 false .bool (.load false 1 (.tmp 67)),og 69 66 false .bool (.len false (.tmp 68)),og 70 66 false .bool (.bin false .gtr (.tmp 69) (.cst (.int .i64 8))),oo 71 (.pick (.tmp 66) (.cst (.bool true)) (.tmp 70)),oo 72 (.mov (.tmp 71)),og 73 72 false .bool (.fld 5 (.tmp 1)),og 74 72 false .bool (.load false 1 (.tmp 73)),og 75 72 false .bool (.call 0 0 (.cst (.fn 22)) [(.tmp 74)] [] []),og 76 72 false .bool (.bin false .eql (.tmp 75) (.cst (.int .i64 0))),oo 77 (.pick (.tmp 72) (.cst (.bool true)) (.tmp 76))]
def Ak1:List TOp:=[oo 2 (.mov (.cst (.bool false)))]
def G1:Kp:=⟨[],[(2,false)],[],[],[]⟩
def Ahn:List TOp:=[oo 10 (.mov (.cst (.int .i64 0)))]
def Aho:List TOp:=[oo 78 (.mov (.tmp 10)),oo 79 (.fld 4 (.tmp 1)),oo 80 (.load false 1 (.tmp 79)),oo 81 (.len false (.tmp 80)),oo 82 (.bin false .lss (.tmp 78) (.tmp 81))]
def Ahp:List TOp:=[oo 85 (.fld 4 (.tmp 1)),oo 86 (.load false 1 (.tmp 85)),oo 87 (.mov (.tmp 10)),oo 88 (.idx 2 (.tmp 86) (.tmp 87)),oo 89 (.fld 0 (.tmp 88)),oo 90 (.load false 1 (.tmp 89)),oo 91 (.call 0 0 (.cst (.fn 80)) [(.tmp 90)] [] []),oo 11 (.mov (.tmp 91))]
def Ahq:List TOp:=[oo 92 (.fld 4 (.tmp 1)),oo 93 (.load false 1 (.tmp 92)),oo 94 (.mov (.tmp 10)),oo 95 (.idx 2 (.tmp 93) (.tmp 94)),oo 96 (.fld 1 (.tmp 95)),oo 97 (.load false 1 (.tmp 96)),oo 98 (.call 0 0 (.cst (.fn 80)) [(.tmp 97)] [] []),oo 12 (.mov (.tmp 98))]
def Ahr:List TOp:=[oo 99 (.mov (.tmp 11)),oo 100 (.un .not (.tmp 99)),oo 101 (.mov (.tmp 100)),og 102 101 false .bool (.mov (.tmp 12)),og 103 101 false .bool (.un .not (.tmp 102)),oo 104 (.pick (.tmp 101) (.cst (.bool true)) (.tmp 103))]
def Ahs:List TOp:=[oo 2 (.mov (.cst (.bool false)))]
def Aht:List TOp:=[oo 83 (.mov (.tmp 10)),oo 84 (.bin false .add (.tmp 83) (.cst (.int .i64 1))),oo 10 (.mov (.tmp 84))]
def Ahm:DC:=(.seq (.seq (.ops Aho) (.cond (.tmp 82) .skip (.exit 0))) (.seq (.pass 1 (.seq (.ops Ahp) (.seq (.ops Ahq) (.seq (.ops Ahr) (.cond (.tmp 104) (.free (.seq (.ops Ahs) (.keep G1 .ret))) .skip))))) (.ops Aht)))
def Ahk:Kp:=⟨[],[(1,false),(10,false)],[(.loc 1 0,false)],[],[]⟩
def Ahv:Sig:=⟨[(1,some (.ptr (.loc 1 0) 0)),(10,some (.ty (.int .i64)))],[(.loc 1 0,(.box [none,none,none,none,none,none,none,none,none]))],[(.int .i64)],[],[]⟩
def Ahl:Kp:=⟨[],[],[],[.loc 1 0],[]⟩
def Ahw:Sig:=⟨[],[],[],[],[]⟩
def Ahu:List TOp:=[oo 2 (.mov (.cst (.bool true)))]
def Ap1:TFd:=⟨1,[(.tmp 2,.bool)],[],(.seq (.ops Aks) (.seq (.ops Akt) (.seq (.ops Aku) (.seq (.ops Akv) (.seq (.ops Akw) (.seq (.ops Akx) (.seq (.ops Aky) (.seq (.ops Akz) (.seq (.seq (.ops Ak0) (.cond (.tmp 77) (.free (.seq (.ops Ak1) (.keep G1 .ret))) .skip)) (.seq (.seq (.ops Ahn) (.joinO Ahl Ahw (.block 0 (.loop [1,10] [] Ahk Ahv Ahm)))) (.seq (.ops Ahu) (.keep G1 .ret))))))))))))⟩
noncomputable def Pb:Ent:=⟨[.ty (.st 7)],[],[(.st 7)],⟨(.ty .bool),[],[],[.bool],[],[]⟩,none,fun p=>Ew p⟩
theorem Ajb:Pb.ok Tryz.prog 45:=Au hm Tryz.func45 (fd:=Ap1) (by kernel_rfl) (Ak (l:=[(79,Hg),(80,Gi),(22,Ek)]) (y:=[]) ⟨Lg,I0,Gg,trivial⟩ trivial) (by kernel_rfl) (fun p=>by kernel_rfl)
end Go.Av.G
end
section
set_option maxRecDepth 100000
set_option maxHeartbeats 8000000
namespace Go.Av.G
open Go Go.Av Go.Proofs
def Sx:List TOp:=[oo 2 (.mov (.cst (.str []))),oo 3 (.mov (.cst (.int .i64 0)))]
def Sy:List TOp:=[oo 11 (.mov (.tmp 0)),oo 12 (.len false (.tmp 11)),oo 13 (.bin false .gtr (.tmp 12) (.cst (.int .i64 16)))]
def S0:List TOp:=[oo 2 (.mov (.cst (.str []))),oo 3 (.mov (.cst (.int .i64 1)))]
def En:Kp:=⟨[],[(2,false),(3,false)],[],[],[]⟩
def S1:List TOp:=[oo 4 (.mov (.cst (.str [])))]
def S2:List TOp:=[oo 5 (.mov (.cst (.int .i64 0)))]
def S3:List TOp:=[oo 14 (.mov (.tmp 5)),oo 15 (.mov (.tmp 0)),oo 16 (.len false (.tmp 15)),oo 17 (.bin false .lss (.tmp 14) (.tmp 16))]
def S4:List TOp:=[oo 20 (.mov (.tmp 0)),oo 21 (.mov (.tmp 5)),oo 22 (.idx 9 (.tmp 20) (.tmp 21)),ot 23 (.st 7) (.load true 9 (.tmp 22)),oo 6 (.alloc [.pv (.str []),.pv (.str []),.pv (.str []),.pv (.str []),.nils,.nils,.pv (.str []),.pv (.str []),.pv (.str [])]),on (.store 9 (.tmp 6) (.tmp 23))]
def S5:List TOp:=[ot 24 (.st 7) (.load true 9 (.tmp 6)),oo 25 (.call 0 0 (.cst (.fn 45)) [(.tmp 24)] [] []),oo 7 (.mov (.tmp 25))]
def S6:List TOp:=[oo 26 (.mov (.tmp 7)),oo 27 (.un .not (.tmp 26))]
def Rg:List TOp:=[oo 2 (.mov (.cst (.str []))),oo 3 (.mov (.cst (.int .i64 1)))]
def Rh:List TOp:=[oo 29 (.fld 5 (.tmp 6)),oo 30 (.load false 1 (.tmp 29)),oo 31 (.call 0 0 (.cst (.fn 18)) [(.tmp 30)] [] []),oo 28 (.mov (.tmp 31)),oo 32 (.ext 0 (.tmp 28)),oo 33 (.ext 1 (.tmp 28)),oo 8 (.mov (.tmp 32)),oo 9 (.mov (.tmp 33))]
def Ri:List TOp:=[oo 34 (.mov (.tmp 5)),oo 35 (.bin false .gtr (.tmp 34) (.cst (.int .i64 0)))]
def Rj:List TOp:=[oo 36 (.mov (.tmp 4)),oo 37 (.bin false .add (.tmp 36) (.cst (.str [32]))),oo 4 (.mov (.tmp 37))]
def Hp:Kp:=⟨[],[(0,false),(4,false),(5,false),(6,false),(8,false)],[(.loc 6 0,false)],[],[]⟩
def Hq:Sig:=⟨[(0,none),(4,some (.ty .str)),(5,none),(6,some (.ptr (.loc 6 0) 0)),(8,none)],[(.loc 6 0,(.box [none,none,none,none,none,none,none,none,none]))],[.str],[],[]⟩
def Rk:List TOp:=[oo 38 (.mov (.tmp 4)),oo 39 (.bin false .add (.tmp 38) (.cst (.str [112,114,111,100,117,99,116,32]))),oo 40 (.fld 0 (.tmp 6)),oo 41 (.load false 1 (.tmp 40)),oo 42 (.bin false .add (.tmp 39) (.tmp 41)),oo 43 (.bin false .add (.tmp 42) (.cst (.str [32]))),oo 44 (.fld 1 (.tmp 6)),oo 45 (.load false 1 (.tmp 44)),oo 46 (.bin false .add (.tmp 43) (.tmp 45)),oo 47 (.bin false .add (.tmp 46) (.cst (.str [32,123,32,98,97,115,105,115,32]))),oo 48 (.fld 2 (.tmp 6)),oo 49 (.load false 1 (.tmp 48)),oo 50 (.bin false .add (.tmp 47) (.tmp 49)),oo 51 (.bin false .add (.tmp 50) (.cst (.str [32,59,32,112,101,114,105,111,100,32]))),oo 52 (.fld 3 (.tmp 6)),oo 53 (.load false 1 (.tmp 52)),oo 54 (.bin false .add (.tmp 51) (.tmp 53)),oo 55 (.bin false .add (.tmp 54) (.cst (.str [32,59,32,116,105,101,114,115,32,123,32]))),oo 4 (.mov (.tmp 55))]
def Rl:List TOp:=[oo 10 (.mov (.cst (.int .i64 0)))]
def Rm:List TOp:=[oo 56 (.mov (.tmp 10)),oo 57 (.fld 4 (.tmp 6)),oo 58 (.load false 1 (.tmp 57)),oo 59 (.len false (.tmp 58)),oo 60 (.bin false .lss (.tmp 56) (.tmp 59))]
def Rn:List TOp:=[oo 63 (.mov (.tmp 4)),oo 64 (.fld 4 (.tmp 6)),oo 65 (.load false 1 (.tmp 64)),oo 66 (.mov (.tmp 10)),oo 67 (.idx 2 (.tmp 65) (.tmp 66)),oo 68 (.fld 0 (.tmp 67)),oo 69 (.load false 1 (.tmp 68)),oo 70 (.bin false .add (.tmp 63) (.tmp 69)),oo 71 (.bin false .add (.tmp 70) (.cst (.str [32,58,32]))),oo 72 (.fld 4 (.tmp 6)),oo 73 (.load false 1 (.tmp 72)),oo 74 (.mov (.tmp 10)),oo 75 (.idx 2 (.tmp 73) (.tmp 74)),oo 76 (.fld 1 (.tmp 75)),oo 77 (.load false 1 (.tmp 76)),oo 78 (.bin false .add (.tmp 71) (.tmp 77)),oo 79 (.bin false .add (.tmp 78) (.cst (.str [32,37,32,59,32]))),oo 4 (.mov (.tmp 79))]
def Ro:List TOp:=[oo 61 (.mov (.tmp 10)),oo 62 (.bin false .add (.tmp 61) (.cst (.int .i64 1))),oo 10 (.mov (.tmp 62))]
def Re:DC:=(.seq (.seq (.ops Rm) (.cond (.tmp 60) .skip (.exit 2))) (.seq (.pass 3 (.draw [] Rn)) (.ops Ro)))
def Rb:Kp:=⟨[],[(0,false),(4,false),(5,false),(6,false),(8,false),(10,false)],[(.loc 6 0,false)],[],[]⟩
def Rt:Sig:=⟨[(0,none),(4,some (.ty .str)),(5,none),(6,some (.ptr (.loc 6 0) 0)),(8,none),(10,some (.ty (.int .i64)))],[(.loc 6 0,(.box [none,none,none,none,none,none,none,none,none]))],[.str,(.int .i64)],[],[]⟩
def Rp:List TOp:=[oo 80 (.mov (.tmp 4)),oo 81 (.bin false .add (.tmp 80) (.cst (.str [125,32,102,101,101,32]))),oo 82 (.mov (.tmp 8)),oo 83 (.bin false .add (.tmp 81) (.tmp 82)),oo 84 (.bin false .add (.tmp 83) (.cst (.str [32,59,32,109,105,110,105,109,117,109,32]))),oo 85 (.fld 6 (.tmp 6)),oo 86 (.load false 1 (.tmp 85)),oo 87 (.bin false .add (.tmp 84) (.tmp 86)),oo 88 (.bin false .add (.tmp 87) (.cst (.str [32,59,32,111,118,101,114,100,114,97,102,116,32]))),oo 89 (.fld 7 (.tmp 6)),oo 90 (.load false 1 (.tmp 89)),oo 91 (.bin false .add (.tmp 88) (.tmp 90)),oo 92 (.bin false .add (.tmp 91) (.cst (.str [32,59,32,110,111,116,105,99,101,32]))),oo 93 (.fld 8 (.tmp 6)),oo 94 (.load false 1 (.tmp 93)),oo 95 (.bin false .add (.tmp 92) (.tmp 94)),oo 96 (.bin false .add (.tmp 95) (.cst (.str [32,59,32,125]))),oo 4 (.mov (.tmp 96))]
def Rq:List TOp:=[oo 18 (.mov (.tmp 5)),oo 19 (.bin false .add (.tmp 18) (.cst (.int .i64 1))),oo 5 (.mov (.tmp 19))]
def Rf:DC:=(.seq (.seq (.ops S3) (.cond (.tmp 17) .skip (.exit 0))) (.seq (.pass 1 (.seq (.ops S4) (.seq (.ops S5) (.seq (.seq (.ops S6) (.cond (.tmp 27) (.free (.seq (.ops Rg) (.keep En .ret))) .skip)) (.seq (.ops Rh) (.seq (.seq (.ops Ri) (.join Hp Hq (.cond (.tmp 35) (.ops Rj) .skip))) (.seq (.ops Rk) (.seq (.seq (.ops Rl) (.join Hp Hq (.block 2 (.loop [0,4,5,6,8,10] [] Rb Rt Re)))) (.ops Rp))))))))) (.ops Rq)))
def Rc:Kp:=⟨[],[(0,false),(4,false),(5,false)],[],[.loc 6 0],[]⟩
def Ru:Sig:=⟨[(0,none),(4,some (.ty .str)),(5,some (.ty (.int .i64)))],[],[.str,(.int .i64)],[],[]⟩
def Rd:Kp:=⟨[],[(4,false)],[],[],[]⟩
def Rv:Sig:=⟨[(4,some (.ty .str))],[],[.str],[],[]⟩
def Rr:List TOp:=[oo 97 (.mov (.tmp 4)),oo 2 (.mov (.tmp 97)),oo 3 (.mov (.cst (.int .i64 0)))]
def Y6:TFd:=⟨1,[(.tmp 2,.bool),(.tmp 3,.bool)],[],(.seq (.ops Sx) (.seq (.seq (.ops Sy) (.cond (.tmp 13) (.free (.seq (.ops S0) (.keep En .ret))) .skip)) (.seq (.ops S1) (.seq (.seq (.ops S2) (.joinO Rd Rv (.block 0 (.loop [0,4,5] [] Rc Ru Rf)))) (.seq (.ops Rr) (.keep En .ret))))))⟩
noncomputable def Ia:Ent:=⟨[.ty (.sl (.st 7))],[],[(.sl (.st 7))],⟨(.tup [(.ty .str),(.ty (.int .i64))]),[],[],[.str,(.int .i64)],[],[]⟩,none,fun p=>D0 p⟩
theorem Sv:Ia.ok Tryz.prog 20:=Au hm Tryz.func20 (fd:=Y6) (by kernel_rfl) (Ak (l:=[(45,Pb),(18,Gx)]) (y:=[]) ⟨Ajb,Jr,trivial⟩ trivial) (by kernel_rfl) (fun p=>by kernel_rfl)
def Oz:List TOp:=[oo 4 (.mov (.cst (.bool false)))]
def O0:List TOp:=[oo 16 (.mov (.tmp 0)),oo 17 (.call 0 0 (.cst (.fn 15)) [(.tmp 16)] [] []),oo 5 (.mov (.tmp 17))]
def O1:List TOp:=[oo 18 (.mov (.tmp 5)),oo 19 (.un .not (.tmp 18)),oo 20 (.mov (.tmp 19)),og 21 20 false .bool (.mov (.tmp 1)),og 22 20 false .bool (.len false (.tmp 21)),og 23 20 false .bool (.bin false .gtr (.tmp 22) (.cst (.int .i64 20))),oo 24 (.pick (.tmp 20) (.cst (.bool true)) (.tmp 23))]
def O2:List TOp:=[oo 25 (.call 0 0 (.cst (.fn 8)) [] [] []),oo 4 (.mov (.tmp 25))]
def Cr:Kp:=⟨[],[(4,false)],[],[],[]⟩
def O3:List TOp:=[oo 6 (.mov (.cst (.int .i64 0)))]
def O4:List TOp:=[oo 26 (.mov (.tmp 6)),oo 27 (.mov (.tmp 1)),oo 28 (.len false (.tmp 27)),oo 29 (.bin false .lss (.tmp 26) (.tmp 28))]
def O5:List TOp:=[oo 32 (.mov (.tmp 1)),oo 33 (.mov (.tmp 6)),oo 34 (.idx 9 (.tmp 32) (.tmp 33)),ot 35 (.st 7) (.load true 9 (.tmp 34)),oo 36 (.call 0 0 (.cst (.fn 16)) [(.tmp 35)] [] []),oo 7 (.mov (.tmp 36))]
def O6:List TOp:=[oo 37 (.mov (.tmp 7)),oo 38 (.un .not (.tmp 37))]
def O7:List TOp:=[oo 39 (.call 0 0 (.cst (.fn 8)) [] [] []),oo 4 (.mov (.tmp 39))]
def Nc:List TOp:=[oo 30 (.mov (.tmp 6)),oo 31 (.bin false .add (.tmp 30) (.cst (.int .i64 1))),oo 6 (.mov (.tmp 31))]
def Nb:DC:=(.seq (.seq (.ops O4) (.cond (.tmp 29) .skip (.exit 0))) (.seq (.pass 1 (.seq (.ops O5) (.seq (.ops O6) (.cond (.tmp 38) (.free (.seq (.ops O7) (.keep Cr .ret))) .skip)))) (.ops Nc)))
def M9:Kp:=⟨[],[(0,false),(1,false),(6,false)],[],[],[]⟩
def Nm:Sig:=⟨[(0,none),(1,none),(6,some (.ty (.int .i64)))],[],[(.int .i64)],[],[]⟩
def Na:Kp:=⟨[],[(0,false),(1,false)],[],[],[]⟩
def Nn:Sig:=⟨[(0,none),(1,none)],[],[],[],[]⟩
def Nf:List TOp:=[oo 41 (.mov (.tmp 0)),oo 42 (.call 0 0 (.cst (.fn 17)) [(.tmp 41)] [] []),oo 40 (.mov (.tmp 42)),oo 43 (.ext 0 (.tmp 40)),oo 44 (.ext 1 (.tmp 40)),oo 8 (.mov (.tmp 43)),oo 9 (.mov (.tmp 44))]
def Ng:List TOp:=[oo 46 (.mov (.tmp 0)),oo 47 (.call 0 0 (.cst (.fn 18)) [(.tmp 46)] [] []),oo 45 (.mov (.tmp 47)),oo 48 (.ext 0 (.tmp 45)),oo 49 (.ext 1 (.tmp 45)),oo 10 (.mov (.tmp 48)),oo 11 (.mov (.tmp 49))]
def Nh:List TOp:=[oo 51 (.mov (.tmp 1)),oo 52 (.call 0 0 (.cst (.fn 19)) [(.tmp 51)] [] []),oo 50 (.mov (.tmp 52)),oo 53 (.ext 0 (.tmp 50)),oo 54 (.ext 1 (.tmp 50)),oo 12 (.mov (.tmp 53)),oo 13 (.mov (.tmp 54))]
def Ni:List TOp:=[oo 56 (.mov (.tmp 1)),oo 57 (.call 0 0 (.cst (.fn 20)) [(.tmp 56)] [] []),oo 55 (.mov (.tmp 57)),oo 58 (.ext 0 (.tmp 55)),oo 59 (.ext 1 (.tmp 55)),oo 14 (.mov (.tmp 58)),oo 15 (.mov (.tmp 59))]
def Nj:List TOp:=[oo 60 (.mov (.tmp 8)),oo 61 (.mov (.tmp 10)),oo 62 (.bin false .neq (.tmp 60) (.tmp 61)),oo 63 (.mov (.tmp 62)),og 64 63 false .bool (.mov (.tmp 9)),og 65 63 false .bool (.mov (.tmp 11)),og 66 63 false .bool (.bin false .neq (.tmp 64) (.tmp 65)),oo 67 (.pick (.tmp 63) (.cst (.bool true)) (.tmp 66)),oo 68 (.mov (.tmp 67)),og 69 68 false .bool (.mov (.tmp 12)),og 70 68 false .bool (.mov (.tmp 14)),og 71 68 false .bool (.bin false .neq (.tmp 69) (.tmp 70)),oo 72 (.pick (.tmp 68) (.cst (.bool true)) (.tmp 71)),oo 73 (.mov (.tmp 72)),og 74 73 false .bool (.mov (.tmp 13)),og 75 73 false .bool (.mov (.tmp 15)),og 76 73 false .bool (.bin false .neq (.tmp 74) (.tmp 75)),oo 77 (.pick (.tmp 73) (.cst (.bool true)) (.tmp 76)),oo 78 (.mov (.tmp 77)),og 79 78 false .bool (.mov (.tmp 0)),og 80 78 false .bool (.call 0 0 (.cst (.fn 21)) [(.tmp 79)] [] []),og 81 78 false .bool (.mov (.tmp 0)),og 82 78 false .bool (.call 0 0 (.cst (.fn 22)) [(.tmp 81)] [] []),og 83 78 false .bool (.bin false .neq (.tmp 80) (.tmp 82)),oo 84 (.pick (.tmp 78) (.cst (.bool true)) (.tmp 83)),oo 85 (.mov (.tmp 84)),og 86 85 false .bool (.mov (.tmp 0)),og 87 85 false .bool (.call 0 0 (.cst (.fn 23)) [(.tmp 86)] [] []),og 88 85 false .bool (.mov (.tmp 0)),og 89 85 false .bool (.call 0 0 (.cst (.fn 22)) [(.tmp 88)] [] []),og 90 85 false .bool (.bin false .gtr (.tmp 89) (.cst (.int .i64 0))),og 91 85 false .bool (.bin true .neq (.tmp 87) (.tmp 90)),oo 92 (.pick (.tmp 85) (.cst (.bool true)) (.tmp 91))]
def Nk:List TOp:=[oo 4 (.mov (.cst (.bool false)))]
def Nl:List TOp:=[oo 93 (.call 0 0 (.cst (.fn 8)) [] [] []),oo 94 (.mov (.tmp 93)),og 95 94 true .bool (.mov (.tmp 1)),og 96 94 true .bool (.len false (.tmp 95)),og 97 94 true .bool (.bin false .lss (.tmp 96) (.cst (.int .i64 2))),og 98 94 true .bool (.mov (.tmp 97)),og 99 98 false .bool (.mov (.tmp 1)),og 100 98 false .bool (.idx 9 (.tmp 99) (.cst (.int .i64 0))),og 101 98 false (.st 7) (.load true 9 (.tmp 100)),og 102 98 false .bool (.mov (.tmp 1)),og 103 98 false .bool (.idx 9 (.tmp 102) (.cst (.int .i64 1))),og 104 98 false (.st 7) (.load true 9 (.tmp 103)),og 105 98 false .bool (.call 0 0 (.cst (.fn 24)) [(.tmp 101),(.tmp 104)] [] []),og 106 98 false .bool (.mov (.tmp 1)),og 107 98 false .bool (.idx 9 (.tmp 106) (.cst (.int .i64 0))),og 108 98 false (.st 7) (.load true 9 (.tmp 107)),og 109 98 false .bool (.mov (.tmp 1)),og 110 98 false .bool (.idx 9 (.tmp 109) (.cst (.int .i64 1))),og 111 98 false (.st 7) (.load true 9 (.tmp 110)),og 112 98 false .bool (.call 0 0 (.cst (.fn 25)) [(.tmp 108),(.tmp 111)] [] []),og 113 98 false .bool (.bin true .eql (.tmp 105) (.tmp 112)),og 114 94 true .bool (.pick (.tmp 98) (.cst (.bool true)) (.tmp 113)),oo 115 (.pick (.tmp 94) (.tmp 114) (.cst (.bool false))),oo 4 (.mov (.tmp 115))]
def Ra:TFd:=⟨2,[(.tmp 4,.bool)],[],(.seq (.ops Oz) (.seq (.ops O0) (.seq (.seq (.ops O1) (.cond (.tmp 24) (.free (.seq (.ops O2) (.keep Cr .ret))) .skip)) (.seq (.seq (.ops O3) (.joinO Na Nn (.block 0 (.loop [0,1,6] [] M9 Nm Nb)))) (.seq (.ops Nf) (.seq (.ops Ng) (.seq (.ops Nh) (.seq (.ops Ni) (.seq (.seq (.ops Nj) (.cond (.tmp 92) (.free (.seq (.ops Nk) (.keep Cr .ret))) .skip)) (.seq (.draw [] Nl) (.keep Cr .ret)))))))))))⟩
noncomputable def Pl:Ent:=⟨[.ty (.sl (.st 4)),.ty (.sl (.st 7))],[],[(.sl (.st 4)),(.sl (.st 7))],⟨(.ty .bool),[],[],[.bool],[],[]⟩,none,fun p=>C5 p.1 p.2⟩
theorem Ot:Pl.ok Tryz.prog 5:=Au hm Tryz.func5 (fd:=Ra) (by kernel_rfl) (Ak (l:=[(15,Hf),(8,Le),(16,My),(17,Uy),(18,Gx),(19,Lq),(20,Ia),(21,Mt),(22,Ek),(23,E4),(24,Acb),(25,M3)]) (y:=[]) ⟨Ld,Abv,Afy,Aj5,Jr,Uj,Sv,Q7,Gg,Fs,Aos,Af2,trivial⟩ trivial) (by kernel_rfl) (fun p=>by kernel_rfl)
end Go.Av.G
end
section
set_option maxRecDepth 4000
set_option maxHeartbeats 4000000
namespace Go.Av.G
open Go Go.Av Go.Proofs
abbrev Nd:=Aa
abbrev Tk:=Ah
abbrev By:=List UInt8
def sIf:By:=[105,102]
def Al3:By:=[116,104,101,110]
def Afv:By:=[101,108,115,101]
def Bel:By:=[97,110,100]
def sOr:By:=[111,114]
def Aqz:By:=[110,111,116]
def Aqy:By:=[109,105,110]
def A4y:By:=[109,97,120]
def isT(s:By)(ts:List Tk):Bool:=match ts with
 |[]=>false
 |t::_=>decide (t.Ac≠2∧t.Ag=s)
def Asz(s:By):Int×Nat:=
 if s=sOr then(13,1) else if s=Bel then(12,2) else if s=[60] then(7,4) else if s=[60,61] then(8,4)
 else if s=[61] then(9,4) else if s=[62] then(10,4) else if s=[62,61] then(11,4)
 else if s=[43] then(3,5) else if s=[45] then(4,5) else if s=[42] then(5,6) else if s=[47] then(6,6) else(0,0)
def Bw(t:Tk):Int×Nat:=if t.Ac=2 then(0,0) else Asz t.Ag
def Bty:List By:=[sIf,Al3,Afv,Bel,sOr,Aqz,Aqy,A4y]
def Btz:List By:=[[112,114,111,100,117,99,116],[98,97,115,105,115],[112,101,114,105,111,100],[116,105,101,114,115],[102,101,101],[109,105,110,105,109,117,109],[111,118,101,114,100,114,97,102,116],[110,111,116,105,99,101]]
def Ay2(s:By)(p:Bool):Bool:=Bty.contains s||(p&&Btz.contains s)
abbrev Rs(α:Type):=Option α×List Tk
def bnd{α β:Type}(r:Rs α)(k:α→List Tk→Rs β):Rs β:=match r with
 |(some a,i)=>k a i
 |(none,i)=>(none,i)
def Lc{β:Type}(s:By)(ts:List Tk)(k:List Tk→Rs β):Rs β:=if isT s ts=true then k ts.tail else(none,ts)
abbrev Axl:=List Tk→Nat→Rs (List Nd)
def F6(rec:Axl)(ts:List Tk):Rs (List Nd):=match ts with
 |[]=>(none,[])
 |t::r=>
  if isT [40] (t::r)=true then bnd (rec r 0) fun a i=>Lc [41] i fun j=>(some a,j)
  else if (isT Aqy (t::r)||isT A4y (t::r))=true then
   Lc [40] r fun r2=>bnd (rec r2 0) fun a i=>Lc [44] i fun i2=>bnd (rec i2 0) fun b j=>Lc [41] j fun j2=>
    (some (⟨if t.Ag=Aqy then 16 else 17,[]⟩::(a++b)),j2)
  else if t.Ac=1 then
   if isT [37] r=true then(some [⟨0,t.Ag++[37]⟩],r.tail) else(some [⟨0,t.Ag⟩],r)
  else if t.Ac=0∧Ay2 t.Ag false=false then(some [⟨1,t.Ag⟩],r)
  else(none,t::r)
def Dd(rec:Axl)(ts:List Tk)(n:Nat):Rs (List Nd×Nat):=
 if n=0∧isT sIf ts=true then
  bnd (rec ts.tail 0) fun a i=>Lc Al3 i fun i2=>bnd (rec i2 0) fun b j=>Lc Afv j fun j2=>bnd (rec j2 0) fun c k=>
   (some (⟨15,[]⟩::(a++b++c),0),k)
 else if n≤3∧isT Aqz ts=true then bnd (rec ts.tail 3) fun a i=>(some (⟨14,[]⟩::a,3),i)
 else if isT [45] ts=true then bnd (rec ts.tail 7) fun a i=>(some (⟨2,[]⟩::a,7),i)
 else bnd (F6 rec ts) fun a i=>(some (a,8),i)
def Ajz(m:Nat):Nat:=if m=4 then 5 else m
def C9(rec:Axl)(n:Nat):Nat→List Nd→Nat→List Tk→Rs (List Nd×Nat)
 |_,out,own,[]=>(some (out,own),[])
 |0,out,own,t::r=>(some (out,own),t::r)
 |f+1,out,own,t::r=>
  if (Bw t).2=0∨(Bw t).2<n∨own<Ajz (Bw t).2 then(some (out,own),t::r)
  else bnd (rec r ((Bw t).2+1)) fun b j=>C9 rec n f (⟨(Bw t).1,[]⟩::(out++b)) (Bw t).2 j
def Js:Nat→Axl
 |0,ts,n=>(none,ts)
 |f+1,ts,n=>bnd (Dd (Js f) ts n) fun x i=>bnd (C9 (Js f) n i.length x.1 x.2 i) fun y j=>(some y.1,j)
def CL(ts:List Tk)(n:Nat):Rs (List Nd):=Js (ts.length+1) ts n
theorem Im{α β:Type}{r:Rs α}{k:α→List Tk→Rs β}{ts:List Tk}(h:r.2 <:+ ts)(hk: ∀a i,i <:+ ts→(k a i).2 <:+ ts):(bnd r k).2 <:+ ts:=by
 obtain⟨o,i⟩:=r
 cases o with
 |none=>exact h
 |some a=>exact hk a i h
theorem Ss{ts:List Tk}:ts.tail <:+ ts:=List.tail_suffix ts
theorem Abn{β:Type}{s:By}{ts:List Tk}{k:List Tk→Rs β}{u:List Tk}(h:ts <:+ u)(hk: ∀i,i <:+ u→(k i).2 <:+ u):(Lc s ts k).2 <:+ u:=by
 unfold Lc
 split
 ·exact hk _ (Ss.trans h)
 ·exact h
theorem Bps{rec:Axl}(hr: ∀ts n,(rec ts n).2 <:+ ts)(ts:List Tk):(F6 rec ts).2 <:+ ts:=by
 cases ts with
 |nil=>exact List.suffix_refl _
 |cons t r=>
  have hc:r <:+ t::r:=List.suffix_cons t r
  unfold F6
  simp only
  split
  ·exact Im ((hr _ _).trans hc) fun a i hi=>Abn hi fun j hj=>hj
  ·split
   ·exact Abn hc fun r2 h2=>Im ((hr _ _).trans h2) fun a i hi=>Abn hi fun i2 hi2=>Im ((hr _ _).trans hi2) fun b j hj=>Abn hj fun j2 hj2=>hj2
   ·split
    ·split
     ·exact Ss.trans hc
     ·exact hc
    ·split
     ·exact hc
     ·exact List.suffix_refl _
theorem Atj{rec:Axl}(hr: ∀ts n,(rec ts n).2 <:+ ts)(ts:List Tk)(n:Nat):(Dd rec ts n).2 <:+ ts:=by
 unfold Dd
 split
 ·exact Im ((hr _ _).trans Ss) fun a i hi=>Abn hi fun i2 hi2=>Im ((hr _ _).trans hi2) fun b j hj=>Abn hj fun j2 hj2=>Im ((hr _ _).trans hj2) fun c k hk=>hk
 ·split
  ·exact Im ((hr _ _).trans Ss) fun a i hi=>hi
  ·split
   ·exact Im ((hr _ _).trans Ss) fun a i hi=>hi
   ·exact Im (Bps hr ts) fun a i hi=>hi
theorem Ayq{rec:Axl}(hr: ∀ts n,(rec ts n).2 <:+ ts)(n:Nat): ∀(f:Nat) (out:List Nd) (own:Nat) (ts:List Tk),(C9 rec n f out own ts).2 <:+ ts
 |f,out,own,[]=>by cases f<;>exact List.suffix_refl _
 |0,out,own,t::r=>List.suffix_refl _
 |f+1,out,own,t::r=>by
  unfold C9
  split
  ·exact List.suffix_refl _
  ·exact Im ((hr _ _).trans (List.suffix_cons t r)) fun b j hj=>(Ayq hr n f _ _ j).trans hj
theorem Hv: ∀(f:Nat) (ts:List Tk) (n:Nat),(Js f ts n).2 <:+ ts
 |0,ts,n=>List.suffix_refl _
 |f+1,ts,n=>by
  unfold Js
  exact Im (Atj (Hv f) ts n) fun x i hi=>Im ((Ayq (Hv f) n _ _ _ _).trans hi) fun y j hj=>hj
def Lt{α:Type}(r:Rs α)(n:Nat):Prop:=r.1≠none→r.2.length<n
theorem Abt{α β:Type}{r:Rs α}{k:α→List Tk→Rs β}{n:Nat}(hk: ∀a,r.1=some a→Lt (k a r.2) n):Lt (bnd r k) n:=by
 obtain⟨o,i⟩:=r
 cases o with
 |none=>intro h;exact absurd rfl h
 |some a=>exact hk a rfl
theorem Am0{β:Type}{s:By}{ts:List Tk}{k:List Tk→Rs β}{n:Nat}(hk:Lt (k ts.tail) n):Lt (Lc s ts k) n:=by
 unfold Lc
 split
 ·exact hk
 ·intro h;exact absurd rfl h
theorem Qg{α:Type}{a:α}{i:List Tk}{n:Nat}(h:i.length<n):Lt ((some a,i):Rs α) n:=fun _=>h
theorem Bkh{α:Type}{i:List Tk}{n:Nat}:Lt ((none,i):Rs α) n:=fun h=>absurd rfl h
def Agree(f g:Axl)(n:Nat):Prop:= ∀ts k,ts.length<n→f ts k=g ts k
theorem Bh{α β:Type}{r r':Rs α}{k k':α→List Tk→Rs β}(h:r=r')(hk: ∀a,r.1=some a→k a r.2=k' a r.2):bnd r k=bnd r' k':=by
 subst h
 obtain⟨o,i⟩:=r
 cases o with
 |none=>rfl
 |some a=>exact hk a rfl
theorem Jx{s:By}{ts:List Tk}(h:isT s ts=true):ts.tail.length+1=ts.length:=by
 cases ts with
 |nil=>cases h
 |cons t r=>rfl
theorem Afo{β:Type}{s:By}{ts:List Tk}{k k':List Tk→Rs β}(hk:isT s ts=true→k ts.tail=k' ts.tail):Lc s ts k=Lc s ts k':=by
 unfold Lc
 split
 ·exact hk (by assumption)
 ·rfl
theorem Bh4{f g:Axl}(hr: ∀ts n,(f ts n).2 <:+ ts){ts:List Tk}(h:Agree f g ts.length):F6 f ts=F6 g ts:=by
 cases ts with
 |nil=>rfl
 |cons t r=>
  unfold F6
  simp only
  have hl: ∀i:List Tk,i.length≤r.length→ ∀k,f i k=g i k:=fun i hi k=>h i k (by simp;omega)
  split
  ·exact Bh (hl _ (Nat.le_refl _) _) fun a ha=>rfl
  ·split
   ·refine Afo fun hw=>?_
    have hw:=Jx hw
    refine Bh (hl _ (by omega) _) fun a ha=>?_
    have hf:=(hr r.tail 0).length_le
    refine Afo fun hw2=>?_
    have hw2:=Jx hw2
    exact Bh (hl _ (by omega) _) fun b hb=>rfl
   ·rfl
theorem Auw{f g:Axl}(hr: ∀ts n,(f ts n).2 <:+ ts){ts:List Tk}(n:Nat)(h:Agree f g ts.length):Dd f ts n=Dd g ts n:=by
 unfold Dd
 have hl: ∀i:List Tk,i.length<ts.length→ ∀k,f i k=g i k:=fun i hi k=>h i k hi
 split
 ·rename_i hw
  have hw:=Jx hw.2
  refine Bh (hl _ (by omega) _) fun a ha=>?_
  have h1:=(hr ts.tail 0).length_le
  refine Afo fun hw2=>?_
  have hw2:=Jx hw2
  refine Bh (hl _ (by omega) _) fun b hb=>?_
  have h2:=(hr (f ts.tail 0).2.tail 0).length_le
  refine Afo fun hw3=>?_
  have hw3:=Jx hw3
  exact Bh (hl _ (by omega) _) fun c hc=>rfl
 ·split
  ·rename_i hw
   have hw:=Jx hw.2
   exact Bh (hl _ (by omega) _) fun a ha=>rfl
  ·split
   ·rename_i hw
    have hw:=Jx hw
    exact Bh (hl _ (by omega) _) fun a ha=>rfl
   ·exact Bh (Bh4 hr h) fun a ha=>rfl
theorem Ab5{f g:Axl}(hr: ∀ts n,(f ts n).2 <:+ ts)(n:Nat): ∀(a b:Nat) (out:List Nd) (own:Nat) (ts:List Tk),Agree f g ts.length→ts.length≤a→ts.length≤b→C9 f n a out own ts=C9 g n b out own ts
 |a,b,out,own,[],_,_,_=>by cases a<;>cases b<;>rfl
 |0,_,out,own,t::r,_,h,_=>absurd h (by simp)
 |_,0,out,own,t::r,_,_,h=>absurd h (by simp)
 |a+1,b+1,out,own,t::r,h,ha,hb=>by
  unfold C9
  split
  ·rfl
  ·have h1:=(hr r ((Bw t).2+1)).length_le
   simp only[List.length_cons] at ha hb
   exact Bh (h _ _ (by simp)) fun x hx=>Ab5 hr n a b _ _ _ (fun i k hi=>h i k (by simp;omega)) (by omega) (by omega)
theorem Auq: ∀(f g:Nat) (ts:List Tk) (n:Nat),ts.length<f→ts.length<g→Js f ts n=Js g ts n
 |0,_,ts,n,h,_=>absurd h (by simp)
 |_,0,ts,n,_,h=>absurd h (by simp)
 |f+1,g+1,ts,n,hf,hg=>by
  unfold Js
  have hag:Agree (Js f) (Js g) ts.length:=fun i k hi=>Auq f g i k (by omega) (by omega)
  refine Bh (Auw (Hv f) n hag) fun x hx=>?_
  have hs:=(Atj (Hv f) ts n).length_le
  exact Bh (Ab5 (Hv f) n _ _ _ _ _ (fun i k hi=>hag i k (by omega)) (Nat.le_refl _) (Nat.le_refl _)) fun y hy=>rfl
theorem Buc{f:Nat}{ts:List Tk}(h:ts.length<f)(n:Nat):Js f ts n=CL ts n:=Auq _ _ _ _ h (by omega)
theorem Gb(ts:List Tk)(n:Nat):(CL ts n).2 <:+ ts:=Hv _ _ _
theorem Aq5(ts:List Tk)(n:Nat):CL ts n=bnd (Dd CL ts n) fun x i=>bnd (C9 CL n i.length x.1 x.2 i) fun y j=>(some y.1,j):=by
 have hag:Agree (Js ts.length) CL ts.length:=fun i k hi=>Buc hi k
 show Js (ts.length+1) ts n=_
 unfold Js
 refine Bh (Auw (Hv _) n hag) fun x hx=>?_
 have hs:=(Atj (Hv ts.length) ts n).length_le
 exact Bh (Ab5 (Hv _) n _ _ _ _ _ (fun i k hi=>hag i k (by omega)) (Nat.le_refl _) (Nat.le_refl _)) fun y hy=>rfl
theorem Brx(ts:List Tk):Lt (F6 CL ts) ts.length:=by
 cases ts with
 |nil=>exact Bkh
 |cons t r=>
  have hs:=fun i k=>(Gb i k).length_le
  have ht: ∀i:List Tk,i.tail.length≤i.length:=fun i=>by simp
  unfold F6
  simp only[List.length_cons]
  split
  ·refine Abt fun a ha=>Am0 (Qg ?_)
   have:=hs r 0;have:=ht (CL r 0).2
   omega
  ·split
   ·refine Am0 (Abt fun a ha=>Am0 (Abt fun b hb=>Am0 (Qg ?_)))
    have:=ht r;have:=hs r.tail 0;have:=ht (CL r.tail 0).2;have:=hs (CL r.tail 0).2.tail 0;have:=ht (CL (CL r.tail 0).2.tail 0).2
    omega
   ·split
    ·split
     ·refine Qg ?_
      have:=ht r
      omega
     ·exact Qg (by omega)
    ·split
     ·exact Qg (by omega)
     ·exact Bkh
theorem Boc(ts:List Tk)(n:Nat):Lt (Dd CL ts n) ts.length:=by
 have hs:=fun i k=>(Gb i k).length_le
 have ht: ∀i:List Tk,i.tail.length≤i.length:=fun i=>by simp
 unfold Dd
 split
 ·rename_i hw
  have hw:=Jx hw.2
  refine Abt fun a ha=>Am0 (Abt fun b hb=>Am0 (Abt fun c hc=>Qg ?_))
  have:=hs ts.tail 0;have:=ht (CL ts.tail 0).2;have:=hs (CL ts.tail 0).2.tail 0;have:=ht (CL (CL ts.tail 0).2.tail 0).2;have:=hs (CL (CL ts.tail 0).2.tail 0).2.tail 0
  omega
 ·split
  ·rename_i hw
   have hw:=Jx hw.2
   refine Abt fun a ha=>Qg ?_
   have:=hs ts.tail 3
   omega
  ·split
   ·rename_i hw
    have hw:=Jx hw
    refine Abt fun a ha=>Qg ?_
    have:=hs ts.tail 7
    omega
   ·refine Abt fun a ha=>Qg ?_
    exact Brx ts (by rw[ha];simp)
theorem Bs2(n:Nat):CL [] n=(none,[]):=by
 rw[Aq5]
 simp[Dd,isT,F6,bnd]
end Go.Av.G
end
section
set_option maxRecDepth 4000
set_option maxHeartbeats 4000000
namespace Go.Av.G
open Go Go.Av Go.Proofs
theorem Br9(s:By):(Asz s).2=0∨(Asz s).2=1∨(Asz s).2=2∨(Asz s).2=4∨(Asz s).2=5∨(Asz s).2=6:=by
 unfold Asz
 repeat' split
 all_goals simp
theorem Uo(t:Tk):(Bw t).2=0∨(Bw t).2=1∨(Bw t).2=2∨(Bw t).2=4∨(Bw t).2=5∨(Bw t).2=6:=by
 unfold Bw
 split
 ·exact Or.inl rfl
 ·exact Br9 _
theorem Il{α β γ:Type}(r:Rs α)(k:α→List Tk→Rs β)(g:β→List Tk→Rs γ):bnd (bnd r k) g=bnd r fun a i=>bnd (k a i) g:=by
 obtain⟨o,i⟩:=r
 cases o<;>rfl
theorem Bq9{α:Type}(r:Rs α):bnd r (fun a i=>(some a,i))=r:=by
 obtain⟨o,i⟩:=r
 cases o<;>rfl
def Af5(n:Nat):Nat→List Nd→List Tk→Rs (List Nd)
 |_,out,[]=>(some out,[])
 |0,out,t::r=>(some out,t::r)
 |f+1,out,t::r=>if (Bw t).2=n then bnd (CL r (n+1)) fun b j=>if n=4 then(some (⟨(Bw t).1,[]⟩::(out++b)),j) else Af5 n f (⟨(Bw t).1,[]⟩::(out++b)) j else(some out,t::r)
theorem A5u(n:Nat){a b:Nat}(out:List Nd)(own:Nat){ts:List Tk}(ha:ts.length≤a)(hb:ts.length≤b):C9 CL n a out own ts=C9 CL n b out own ts:=
 Ab5 Gb n a b out own ts (fun i k hi=>rfl) ha hb
theorem Fo{n f:Nat}{out:List Nd}{own:Nat}{t:Tk}{r:List Tk}(h:(Bw t).2=0∨(Bw t).2<n∨own<Ajz (Bw t).2):C9 CL n f out own (t::r)=(some (out,own),t::r):=by
 cases f with
 |zero=>rfl
 |succ f=>unfold C9;rw[if_pos h]
theorem Ms{n f:Nat}{out:List Nd}{own:Nat}{t:Tk}{r:List Tk}(h: ¬((Bw t).2=0∨(Bw t).2<n∨own<Ajz (Bw t).2)):C9 CL n (f+1) out own (t::r)=bnd (CL r ((Bw t).2+1)) fun b j=>C9 CL n f (⟨(Bw t).1,[]⟩::(out++b)) (Bw t).2 j:=by
 rw[C9,if_neg h]
def Bsm(n own:Nat)(ts:List Tk):Prop:=match ts with
 |[]=>True
 |t::_=>(Bw t).2=0∨(Bw t).2<n∨own<Ajz (Bw t).2
theorem Ays(n:Nat): ∀(f:Nat) (out:List Nd) (own:Nat) (ts:List Tk),ts.length≤f→ ∀x j,C9 CL n f out own ts=(some x,j)→Bsm n x.2 j∧(n≤own→n≤x.2)
 |f,out,own,[],_,x,j,h=>by
  have:C9 CL n f out own []=(some (out,own),[]):=by cases f<;>rfl
  rw[this] at h
  cases h
  exact⟨trivial,id⟩
 |0,out,own,t::r,hf,x,j,h=>absurd hf (by simp)
 |f+1,out,own,t::r,hf,x,j,h=>by
  simp only[List.length_cons] at hf
  by_cases hs:(Bw t).2=0∨(Bw t).2<n∨own<Ajz (Bw t).2
  ·rw[Fo hs] at h
   cases h
   exact⟨hs,id⟩
  ·rw[Ms hs] at h
   have hl:=(Gb r ((Bw t).2+1)).length_le
   cases hc:CL r ((Bw t).2+1) with
   |mk o i=>
    rw[hc] at h hl
    cases o with
    |none=>cases h
    |some b=>
     obtain⟨h1,h2⟩:=Ays n f _ _ i (by simp at hl;omega) x j h
     exact⟨h1,fun _=>h2 (by omega)⟩
theorem Ayr{n m:Nat}(hnm:n≤m): ∀(k f:Nat) (out:List Nd) (own:Nat) (ts:List Tk),ts.length≤f→ts.length≤k→C9 CL n f out own ts=bnd (C9 CL m f out own ts) fun x j=>C9 CL n k x.1 x.2 j
 |k,f,out,own,[],_,_=>by cases f<;>cases k<;>rfl
 |k,0,out,own,t::r,hf,_=>absurd hf (by simp)
 |0,f,out,own,t::r,_,hk=>absurd hk (by simp)
 |k+1,f+1,out,own,t::r,hf,hk=>by
  by_cases hs:(Bw t).2=0∨(Bw t).2<m∨own<Ajz (Bw t).2
  ·rw[Fo hs (n:=m)]
   exact A5u n out own hf hk
  ·rw[Ms hs,Ms (by omega),Il]
   simp only[List.length_cons] at hf hk
   refine Bh rfl fun b hb=>?_
   have hl:=(Gb r ((Bw t).2+1)).length_le
   rw[Ayr hnm (k+1) f _ _ _ (by omega) (by omega)]
theorem Bck{n:Nat}(hn:n=1∨n=2∨n=5∨n=6): ∀(f:Nat) (out:List Nd) (ts:List Tk),ts.length≤f→(bnd (C9 CL n f out n ts) fun y j=>(some y.1,j))=Af5 n f out ts
 |f,out,[],_=>by cases f<;>rfl
 |0,out,t::r,hf=>absurd hf (by simp)
 |f+1,out,t::r,hf=>by
  simp only[List.length_cons] at hf
  have hd:=Uo t
  by_cases hs:(Bw t).2=n
  ·rw[Ms (by unfold Ajz;rw[hs,if_neg (by omega)];omega),Il,Af5,if_pos hs,hs]
   refine Bh rfl fun b hb=>?_
   have hl:=(Gb r (n+1)).length_le
   rw[Bck hn f _ _ (by omega),if_neg (by omega)]
  ·rw[Fo (by unfold Ajz;split<;>omega),Af5,if_neg hs]
   rfl
theorem Blv{f:Nat}{out:List Nd}{ts:List Tk}:C9 CL 4 f out 4 ts=(some (out,4),ts):=by
 cases ts with
 |nil=>cases f<;>rfl
 |cons t r=>
  have hd:=Uo t
  exact Fo (by unfold Ajz;split<;>omega)
theorem Blw{n:Nat}(hn:n=1∨n=2∨n=4∨n=5∨n=6){f:Nat}{out:List Nd}{own:Nat}{ts:List Tk}(hf:ts.length≤f)(hs:Bsm (n+1) own ts)(ho:n+1≤own):(bnd (C9 CL n f out own ts) fun y j=>(some y.1,j))=Af5 n f out ts:=by
 cases ts with
 |nil=>cases f<;>rfl
 |cons t r=>
  cases f with
  |zero=>exact absurd hf (by simp)
  |succ f=>
   simp only[List.length_cons] at hf
   have hd:=Uo t
   have hs:(Bw t).2=0∨(Bw t).2<n+1∨own<Ajz (Bw t).2:=hs
   by_cases he:(Bw t).2=n
   ·rw[Ms (by rw[he];unfold Ajz;split<;>omega),Il,Af5,if_pos he,he]
    refine Bh rfl fun b hb=>?_
    have hl:=(Gb r (n+1)).length_le
    by_cases h4:n=4
    ·subst h4
     rw[Blv,if_pos rfl]
     rfl
    ·rw[Bck (by omega) f _ _ (by omega),if_neg h4]
   ·rw[Fo (by omega),Af5,if_neg he]
    rfl
theorem I1{n:Nat}(hn:n≠0)(ts:List Tk):Dd CL ts n=if n≤3∧isT Aqz ts=true then bnd (CL ts.tail 3) fun a i=>(some (⟨14,[]⟩::a,3),i)
 else if isT [45] ts=true then bnd (CL ts.tail 7) fun a i=>(some (⟨2,[]⟩::a,7),i)
 else bnd (F6 CL ts) fun a i=>(some (a,8),i):=by
 unfold Dd
 rw[if_neg (fun c=>hn c.1)]
theorem Bge{n:Nat}(hn:n=1∨n=2∨n=4∨n=5∨n=6)(ts:List Tk):Dd CL ts n=Dd CL ts (n+1):=by
 rw[I1 (by omega),I1 (by omega)]
 by_cases h:isT Aqz ts=true
 ·have hd:(n≤3∧isT Aqz ts=true)↔(n+1≤3∧isT Aqz ts=true):=⟨fun c=>⟨by have:=c.1;omega,h⟩,fun c=>⟨by have:=c.1;omega,h⟩⟩
  simp only[hd]
 ·simp only[h,and_false,if_false,Bool.false_eq_true]
theorem Blo{n:Nat}(hn:1≤n)(h7:n≤7)(ts:List Tk): ∀x j,Dd CL ts n=(some x,j)→n≤x.2:=by
 intro x j h
 rw[I1 (by omega)] at h
 split at h
 ·rename_i h3
  cases hc:CL ts.tail 3 with
  |mk o i=>cases o with
   |none=>rw[hc] at h;cases h
   |some a=>rw[hc] at h;cases h;exact h3.1
 ·split at h
  ·cases hc:CL ts.tail 7 with
   |mk o i=>cases o with
    |none=>rw[hc] at h;cases h
    |some a=>rw[hc] at h;cases h;exact h7
  ·cases hc:F6 CL ts with
   |mk o i=>cases o with
    |none=>rw[hc] at h;cases h
    |some a=>rw[hc] at h;cases h;show n≤8;omega
theorem Bs1{n:Nat}(hn:n=1∨n=2∨n=4∨n=5∨n=6)(ts:List Tk):CL ts n=bnd (CL ts (n+1)) fun out i=>Af5 n i.length out i:=by
 rw[Aq5 ts n,Aq5 ts (n+1),Bge hn,Il]
 refine Bh rfl fun x hx=>?_
 generalize hi:(Dd CL ts (n+1)).2=i
 have hown:=Blo (n:=n+1) (by omega) (by omega) ts x i (by rw[←hi,←hx])
 rw[Ayr (Nat.le_succ n) i.length i.length x.1 x.2 i (Nat.le_refl _) (Nat.le_refl _),Il,Il]
 refine Bh rfl fun y hy=>?_
 generalize hj:(C9 CL (n+1) i.length x.1 x.2 i).2=j
 obtain⟨h1,h2⟩:=Ays (n+1) i.length x.1 x.2 i (Nat.le_refl _) y j (by rw[←hj,←hy])
 have hl:=(Ayq Gb (n+1) i.length x.1 x.2 i).length_le
 rw[hj] at hl
 show _=Af5 n j.length y.1 j
 rw[A5u n y.1 y.2 hl (Nat.le_refl j.length)]
 exact Blw hn (Nat.le_refl _) h1 (h2 hown)
theorem Amp{n f:Nat}{out:List Nd}{own:Nat}{ts:List Tk}(h: ∀t r,ts=t::r→(Bw t).2=0∨(Bw t).2<n∨own<Ajz (Bw t).2):C9 CL n f out own ts=(some (out,own),ts):=by
 cases ts with
 |nil=>cases f<;>rfl
 |cons t r=>exact Fo (h t r rfl)
theorem Bq1(ts:List Tk):CL ts 0=if isT sIf ts=true then
   bnd (CL ts.tail 0) fun a i=>Lc Al3 i fun i2=>bnd (CL i2 0) fun b j=>Lc Afv j fun j2=>bnd (CL j2 0) fun c k=>(some (⟨15,[]⟩::(a++b++c)),k)
  else CL ts 1:=by
 rw[Aq5 ts 0]
 by_cases h:isT sIf ts=true
 ·rw[if_pos h]
  unfold Dd
  rw[if_pos ⟨rfl,h⟩,Il]
  refine Bh rfl fun a ha=>?_
  unfold Lc
  split
  ·rw[Il]
   refine Bh rfl fun b hb=>?_
   split
   ·rw[Il]
    refine Bh rfl fun c hc=>?_
    show bnd (C9 CL 0 _ _ 0 _) _=_
    rw[Amp (fun t r he=>by have:=Uo t;unfold Ajz;split<;>omega)]
    rfl
   ·rfl
  ·rfl
 ·rw[if_neg h,Aq5 ts 1]
  have hf:Dd CL ts 0=Dd CL ts 1:=by
   rw[I1 (n:=1) (by omega)]
   unfold Dd
   rw[if_neg (fun c=>h c.2)]
   simp
  rw[hf]
  refine Bh rfl fun x hx=>?_
  generalize (Dd CL ts 1).2=i
  have key: ∀(f:Nat) (out:List Nd) (own:Nat) (ts:List Tk),C9 CL 0 f out own ts=C9 CL 1 f out own ts:=by
   intro f
   induction f with
   |zero=>intro out own ts;cases ts<;>rfl
   |succ f ih=>
    intro out own ts
    cases ts with
    |nil=>rfl
    |cons t r=>
     by_cases hs:(Bw t).2=0∨(Bw t).2<0∨own<Ajz (Bw t).2
     ·rw[Fo hs,Fo (by omega)]
     ·rw[Ms hs,Ms (by omega)]
      exact Bh rfl fun b hb=>ih _ _ _
  rw[key]
theorem Bm4(ts:List Tk):CL ts 3=if isT Aqz ts=true then bnd (CL ts.tail 3) fun a i=>(some (⟨14,[]⟩::a),i) else CL ts 4:=by
 rw[Aq5 ts 3]
 by_cases h:isT Aqz ts=true
 ·rw[if_pos h]
  rw[I1 (by omega),if_pos ⟨by omega,h⟩,Il]
  refine Bh rfl fun a ha=>?_
  show bnd (C9 CL 3 _ _ 3 _) _=_
  rw[Amp (fun t r he=>by have:=Uo t;unfold Ajz;split<;>omega)]
  rfl
 ·rw[if_neg h,Aq5 ts 4]
  have hf:Dd CL ts 3=Dd CL ts 4:=by
   rw[I1 (by omega),I1 (by omega)]
   simp only[h,and_false,if_false,Bool.false_eq_true]
  rw[hf]
  refine Bh rfl fun x hx=>?_
  generalize (Dd CL ts 4).2=i
  have key: ∀(f:Nat) (out:List Nd) (own:Nat) (ts:List Tk),C9 CL 3 f out own ts=C9 CL 4 f out own ts:=by
   intro f
   induction f with
   |zero=>intro out own ts;cases ts<;>rfl
   |succ f ih=>
    intro out own ts
    cases ts with
    |nil=>rfl
    |cons t r=>
     have hd:=Uo t
     by_cases hs:(Bw t).2=0∨(Bw t).2<3∨own<Ajz (Bw t).2
     ·rw[Fo hs,Fo (by omega)]
     ·rw[Ms hs,Ms (by omega)]
      exact Bh rfl fun b hb=>ih _ _ _
  rw[key]
theorem Bm3(ts:List Tk):CL ts 7=if isT [45] ts=true then bnd (CL ts.tail 7) fun a i=>(some (⟨2,[]⟩::a),i) else F6 CL ts:=by
 rw[Aq5 ts 7]
 rw[I1 (by omega),if_neg (fun c=>absurd c.1 (by omega))]
 by_cases h:isT [45] ts=true
 ·rw[if_pos h,if_pos h,Il]
  refine Bh rfl fun a ha=>?_
  show bnd (C9 CL 7 _ _ 7 _) _=_
  rw[Amp (fun t r he=>by have:=Uo t;omega)]
  rfl
 ·rw[if_neg h,if_neg h,Il]
  conv=>rhs;rw[←Bq9 (F6 CL ts)]
  refine Bh rfl fun a ha=>?_
  show bnd (C9 CL 7 _ _ 8 _) _=_
  rw[Amp (fun t r he=>by have:=Uo t;omega)]
  rfl
end Go.Av.G
end
