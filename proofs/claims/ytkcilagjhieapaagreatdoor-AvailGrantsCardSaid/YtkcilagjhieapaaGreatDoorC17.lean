import Derived.Test.YtkcilagjhieapaaGreatDoorC16
section
set_option linter.unusedVariables false
set_option linter.unusedSimpArgs false
set_option maxRecDepth 100000
set_option maxHeartbeats 8000000
namespace Go.Av.G
open Go Go.Av Go.Proofs
def Azk:List GOp:=[k0 10 0]
def Azl:List GOp:=[m0 11 10,m0 12 3,p0 13 .lss 11 12]
def Azm:List GOp:=[m0 16 0,m0 17 1,m0 18 10,p0 19 .add 17 18,m0 20 0,m0 21 2,m0 22 10,p0 23 .add 21 22,m0 24 0,m0 25 2,m0 26 10,p0 27 .add 25 26,i0 28 9 24 27,t0 29 9 28,m0 30 0,m0 31 1,m0 32 10,p0 33 .add 31 32,i0 34 9 30 33,t0 35 9 34,i0 36 9 16 19,s0 9 36 29,i0 37 9 20 23,s0 9 37 35]
def Azn:List GOp:=[m0 14 10,q0 15 .add 14 1,m0 10 15]
def Azj:AC:=(.keep [] [(0,false),(1,false),(2,false),(3,false),(10,false)] [(.ext 0,false)] [] [] (.seq (.seq (.ops Azl) (.cond (.tmp 13) .skip (.keep [] [] [(.ext 0,false)] [] [] (.exit 0)))) (.seq (.pass 1 (.draw [] Azm)) (.ops Azn))))
def Be7:AC:=(.seq (.ops Azk) (.block 0 (.loop [0,1,2,3,10] [] Azj)))
def Q15:Fd:=⟨5,[],[],Be7⟩
theorem Apw:Bl Tryz.prog Tryz.f153 Q15=true:=by kernel_rfl
theorem E8{a1:Int}{b2:Int}{n3:Int}{l4:List Aa}{r:List Aa}(h:B8 a1 b2 n3 l4=some r):A3 Tryz.prog 153 [.own (.ext 0),Vi a1,Vi b2,Vi n3,.pv (.fn 103)] [.row 9 (List.map Aa.pv l4)] ⟨.tup [],[],[(some (.row 9 (List.map Aa.pv r)))]⟩:=by
 refine Ap hm Tryz.func153 Apw (by kernel_rfl) ?_
 unfold B8 at h
 refine Ab Aw ?_
 obtain⟨j5,hj5,h⟩:=Ag h
 refine W.mono (Q:=Ux (fun p σ=>σ=⟨[],[(.ext 0,.row 9 (List.map Aa.pv p))]⟩) j5) ?_ (fun ex σj5 hp=>?_)
 ·refine Ch (fun q σ=>((σ.forget [0,1,2,3,10]).killAll []).tidy [] [(0,false),(1,false),(2,false),(3,false),(10,false)] [(.ext 0,false)] [] []=⟨[(0,.own (.ext 0)),(1,Vi a1),(2,Vi b2),(3,Vi n3),(10,Vi q.1)],[(.ext 0,.row 9 (List.map Aa.pv q.2))]⟩) hj5 ?_ ?_
  ·show _=_
   kernel_rfl
  ·intro q σj5 oj5 hJj5 h
   obtain⟨i6,row7⟩:=q
   refine W.keep hJj5 ?_
   refine Ae ?_
   refine Ab Aw ?_
   refine Ar (t:=decide (i6<n3)) (by kernel_rfl) h (fun hc h'=>?_) (fun hc h'=>?_)
   ·replace h:=h'
    refine Ay ?_
    refine Bs ?_
    obtain⟨x8,hx8,h⟩:=Ag h
    obtain⟨x9,hx9,h⟩:=Ag h
    obtain⟨x10,hx10,h⟩:=Ag h
    obtain⟨x11,hx11,h⟩:=Ag h
    refine Bx Ax (Dw 12 (Run.dyn (B3 (k:= .ext 0) (f:=Aa.pv) (l:=row7) (n:=IntKind.wrap .i64 (b2+i6)) (e:=x8) (kd:= .i64) (by kernel_rfl) (by kernel_rfl) (by kernel_rfl) hx8) (Run.dyn (Co (off:=0) (k:= .ext 0) (f:=Aa.pv) (l:=row7) (i:=IntKind.wrap .i64 (b2+i6)) (e:=x8) (sz:=9) (v:= .pv (Aa.pv x8)) (by kernel_rfl) (by kernel_rfl) hx8 (by kernel_rfl) (by kernel_rfl)) (Dw 4 (Run.dyn (B3 (k:= .ext 0) (f:=Aa.pv) (l:=row7) (n:=IntKind.wrap .i64 (a1+i6)) (e:=x9) (kd:= .i64) (by kernel_rfl) (by kernel_rfl) (by kernel_rfl) hx9) (Run.dyn (Co (off:=0) (k:= .ext 0) (f:=Aa.pv) (l:=row7) (i:=IntKind.wrap .i64 (a1+i6)) (e:=x9) (sz:=9) (v:= .pv (Aa.pv x9)) (by kernel_rfl) (by kernel_rfl) hx9 (by kernel_rfl) (by kernel_rfl)) (Run.dyn (B3 (k:= .ext 0) (f:=Aa.pv) (l:=row7) (n:=IntKind.wrap .i64 (a1+i6)) (e:=x10) (kd:= .i64) (by kernel_rfl) (by kernel_rfl) (by kernel_rfl) hx10) (Run.dyn (Ec (sz:=9) (off:=0) (k:= .ext 0) (f:=Aa.pv) (l:=row7) (i:=IntKind.wrap .i64 (a1+i6)) (e:=x10) (e':=x8) (v:=(Aa.pv x8)) (by kernel_rfl) (by kernel_rfl) (by kernel_rfl) hx10 (by kernel_rfl) (by kernel_rfl)) (Run.dyn (B3 (k:= .ext 0) (f:=Aa.pv) (l:=(List.set row7 (Int.toNat (IntKind.wrap .i64 (a1+i6))) x8)) (n:=IntKind.wrap .i64 (b2+i6)) (e:=x11) (kd:= .i64) (by kernel_rfl) (by kernel_rfl) (by kernel_rfl) hx11) (Run.dyn (Ec (sz:=9) (off:=0) (k:= .ext 0) (f:=Aa.pv) (l:=(List.set row7 (Int.toNat (IntKind.wrap .i64 (a1+i6))) x8)) (i:=IntKind.wrap .i64 (b2+i6)) (e:=x11) (e':=x9) (v:=(Aa.pv x9)) (by kernel_rfl) (by kernel_rfl) (by kernel_rfl) hx11 (by kernel_rfl) (by kernel_rfl)) ((Run.nil)))))))))))) ?_
    refine W.ops Aw ?_
    cases h
    exact Ow
   ·replace h:=h'
    refine An rfl ?_
    cases h
    exact Bp ((Bh B6 (D3 (by(show _=_);kernel_rfl))))
 ·obtain⟨rfl,hs⟩:=hp
  subst hs
  cases h
  exact(Mk (by kernel_rfl))
def A0u:List GOp:=[m0 12 2,m0 13 1,p0 14 .sub 12 13,m0 10 14]
def A0v:List GOp:=[m0 15 3,m0 16 2,p0 17 .sub 15 16,m0 11 17]
def A0w:List GOp:=[m0 18 10,m0 19 11,p0 20 .neq 18 19]
def A0x:List GOp:=[m0 21 10,m0 22 11,p0 23 .gtr 21 22]
def A0y:List GOp:=[m0 24 0,m0 25 2,m0 26 10,p0 27 .sub 25 26,m0 28 2,m0 29 11,m0 30 4,o0 31 (.call 0 2 (.cst (.fn 153)) [(.tmp 24),(.tmp 27),(.tmp 28),(.tmp 29),(.tmp 30)] [] [.ext 0])]
def A0z:List GOp:=[m0 32 10,m0 33 11,p0 34 .sub 32 33,m0 10 34]
def A00:List GOp:=[m0 35 0,m0 36 2,m0 37 10,p0 38 .sub 36 37,m0 39 2,m0 40 11,p0 41 .add 39 40,m0 42 10,p0 43 .sub 41 42,m0 44 10,m0 45 4,o0 46 (.call 0 2 (.cst (.fn 153)) [(.tmp 35),(.tmp 38),(.tmp 43),(.tmp 44),(.tmp 45)] [] [.ext 0])]
def A01:List GOp:=[m0 47 11,m0 48 10,p0 49 .sub 47 48,m0 11 49]
def A0t:AC:=(.keep [] [(0,false),(2,false),(4,false),(10,false),(11,false)] [(.ext 0,false)] [] [] (.seq (.seq (.ops A0w) (.cond (.tmp 20) .skip (.exit 0))) (.pass 1 (.seq (.ops A0x) (.cond (.tmp 23) (.seq (.ops A0y) (.ops A0z)) (.seq (.ops A00) (.ops A01)))))))
def A02:List GOp:=[m0 50 0,m0 51 2,m0 52 10,p0 53 .sub 51 52,m0 54 2,m0 55 10,m0 56 4,o0 57 (.call 0 2 (.cst (.fn 153)) [(.tmp 50),(.tmp 53),(.tmp 54),(.tmp 55),(.tmp 56)] [] [.ext 0])]
def Bfo:AC:=(.seq (.ops A0u) (.seq (.ops A0v) (.seq (.block 0 (.loop [0,2,4,10,11] [] A0t)) (.keep [] [(0,false),(2,false),(4,false),(10,false)] [(.ext 0,false)] [] [] (.ops A02)))))
def Q22:Fd:=⟨5,[],[],Bfo⟩
theorem Aq7:Bl Tryz.prog Tryz.f152 Q22=true:=by kernel_rfl
theorem Lj{a1:Int}{m2:Int}{b3:Int}{l4:List Aa}{r:List Aa}(h:Dn a1 m2 b3 l4=some r):A3 Tryz.prog 152 [.own (.ext 0),Vi a1,Vi m2,Vi b3,.pv (.fn 103)] [.row 9 (List.map Aa.pv l4)] ⟨.tup [],[],[(some (.row 9 (List.map Aa.pv r)))]⟩:=by
 refine Ap hm Tryz.func152 Aq7 (by kernel_rfl) ?_
 unfold Dn at h
 refine Ab Aw ?_
 refine Ab Aw ?_
 obtain⟨j5,hj5,h⟩:=Ag h
 refine W.join (j:=j5) (fun p σ=>σ.tidy [] [(0,false),(2,false),(4,false),(10,false)] [(.ext 0,false)] [] []=⟨[(0,.own (.ext 0)),(2,Vi m2),(4,.pv (.fn 103)),(10,Vi p.1)],[(.ext 0,.row 9 (List.map Aa.pv p.2))]⟩) ?_ (fun σj5 hsj5=>?_)
 ·refine Ch (fun q σ=>((σ.forget [0,2,4,10,11]).killAll []).tidy [] [(0,false),(2,false),(4,false),(10,false),(11,false)] [(.ext 0,false)] [] []=⟨[(0,.own (.ext 0)),(2,Vi m2),(4,.pv (.fn 103)),(10,Vi q.1),(11,Vi q.2.1)],[(.ext 0,.row 9 (List.map Aa.pv q.2.2))]⟩) hj5 ?_ ?_
  ·show _=_
   kernel_rfl
  ·intro q σj5 oj5 hJj5 h
   obtain⟨i6,j7,row8⟩:=q
   refine W.keep hJj5 ?_
   refine Ae ?_
   refine Ab Aw ?_
   refine Ar (t:=(i6 !=j7)) (by kernel_rfl) h (fun hc h'=>?_) (fun hc h'=>?_)
   ·replace h:=h'
    refine Ay ?_
    refine W.pass ?_
    refine Ab Aw ?_
    refine De (t:=decide (i6>j7)) (by kernel_rfl) h (fun hc h'=>?_) (fun hc h'=>?_)
    ·replace h:=h'
     obtain⟨x9,hx9,h⟩:=Ag h
     refine Ab (Bw 7 (Aj.cons (Tw (E8 hx9) Ax) (Cx (g:=153) (caps:=[]) (v:= .tup []) (ins:=[]) rfl (by kernel_rfl) (by kernel_rfl) (by kernel_rfl) Hw (by kernel_rfl) (by kernel_rfl)) ((.nil _)))) ?_
     refine W.ops Aw ?_
     cases h
     exact Ow
    ·replace h:=h'
     obtain⟨x10,hx10,h⟩:=Ag h
     refine Ab (Bw 11 (Aj.cons (Tw (E8 hx10) Ax) (Cx (g:=153) (caps:=[]) (v:= .tup []) (ins:=[]) rfl (by kernel_rfl) (by kernel_rfl) (by kernel_rfl) Hw (by kernel_rfl) (by kernel_rfl)) ((.nil _)))) ?_
     refine W.ops Aw ?_
     cases h
     exact Ow
   ·replace h:=h'
    cases h
    exact Bp ((Bh B6 (D3 (by(show _=_);kernel_rfl))))
 ·obtain⟨i11,row12⟩:=j5
  refine W.keep hsj5 ?_
  obtain⟨x13,hx13,h⟩:=Ag h
  refine W.ops (Bw 7 (Aj.cons (Tw (E8 hx13) Ax) (Cx (g:=153) (caps:=[]) (v:= .tup []) (ins:=[]) rfl (by kernel_rfl) (by kernel_rfl) (by kernel_rfl) Hw (by kernel_rfl) (by kernel_rfl)) ((.nil _)))) ?_
  cases h
  exact(Mk (by kernel_rfl))
def Azp:List GOp:=[m0 25 2,m0 26 1,p0 27 .sub 25 26,q0 28 .eql 27 1]
def Azq:List GOp:=[m0 29 2,m0 10 29]
def Azr:List GOp:=[m0 30 3,m0 11 30]
def Azs:List GOp:=[m0 31 10,m0 32 11,p0 33 .lss 31 32]
def Azt:List GOp:=[m0 34 10,m0 35 11,p0 36 .add 34 35,o0 37 (.conv .u64 (.tmp 36)),o0 38 (.bin false .shr (.tmp 37) (.cst (.int .u64 1))),o0 39 (.conv .i64 (.tmp 38)),m0 12 39]
def Azu:List GOp:=[m0 40 4,m0 41 0,m0 42 12,i0 43 9 41 42,t0 44 9 43,m0 45 0,m0 46 1,i0 47 9 45 46,t0 48 9 47,o0 49 (.call 0 0 (.tmp 40) [(.tmp 44),(.tmp 48)] [] []),q0 50 .lss 49 0]
def Azv:List GOp:=[m0 51 12,q0 52 .add 51 1,m0 10 52]
def Azw:List GOp:=[m0 53 12,m0 11 53]
def Azo:AC:=(.keep [] [(0,false),(1,false),(4,false),(10,false),(11,false)] [(.ext 0,false)] [] [] (.seq (.seq (.ops Azs) (.cond (.tmp 33) .skip (.exit 0))) (.pass 1 (.seq (.ops Azt) (.seq (.draw [] Azu) (.cond (.tmp 50) (.ops Azv) (.ops Azw)))))))
def Azx:List GOp:=[m0 54 1,m0 13 54]
def Ap2:List GOp:=[m0 55 13,m0 56 10,q0 57 .sub 56 1,p0 58 .lss 55 57]
def Ap3:List GOp:=[m0 61 0,m0 62 13,m0 63 0,m0 64 13,q0 65 .add 64 1,m0 66 0,m0 67 13,q0 68 .add 67 1,i0 69 9 66 68,t0 70 9 69,m0 71 0,m0 72 13,i0 73 9 71 72,t0 74 9 73,i0 75 9 61 62,s0 9 75 70,i0 76 9 63 65,s0 9 76 74]
def Ap4:List GOp:=[m0 59 13,q0 60 .add 59 1,m0 13 60]
def Apy:AC:=(.keep [] [(0,false),(10,false),(13,false)] [(.ext 0,false)] [] [] (.seq (.seq (.ops Ap2) (.cond (.tmp 58) .skip (.exit 2))) (.seq (.pass 3 (.draw [] Ap3)) (.ops Ap4))))
def Ap5:List GOp:=[m0 77 3,m0 78 2,p0 79 .sub 77 78,q0 80 .eql 79 1]
def Ap6:List GOp:=[m0 81 1,m0 14 81]
def Ap7:List GOp:=[m0 82 2,m0 15 82]
def Ap8:List GOp:=[m0 83 14,m0 84 15,p0 85 .lss 83 84]
def Ap9:List GOp:=[m0 86 14,m0 87 15,p0 88 .add 86 87,o0 89 (.conv .u64 (.tmp 88)),o0 90 (.bin false .shr (.tmp 89) (.cst (.int .u64 1))),o0 91 (.conv .i64 (.tmp 90)),m0 16 91]
def Aqa:List GOp:=[m0 92 4,m0 93 0,m0 94 2,i0 95 9 93 94,t0 96 9 95,m0 97 0,m0 98 16,i0 99 9 97 98,t0 100 9 99,o0 101 (.call 0 0 (.tmp 92) [(.tmp 96),(.tmp 100)] [] []),q0 102 .lss 101 0,o0 103 (.un .not (.tmp 102))]
def Aqb:List GOp:=[m0 104 16,q0 105 .add 104 1,m0 14 105]
def Aqc:List GOp:=[m0 106 16,m0 15 106]
def Apz:AC:=(.keep [] [(0,false),(2,false),(4,false),(14,false),(15,false)] [(.ext 0,false)] [] [] (.seq (.seq (.ops Ap8) (.cond (.tmp 85) .skip (.exit 4))) (.pass 5 (.seq (.ops Ap9) (.seq (.draw [] Aqa) (.cond (.tmp 103) (.ops Aqb) (.ops Aqc)))))))
def Aqd:List GOp:=[m0 107 2,m0 17 107]
def Aqe:List GOp:=[m0 108 17,m0 109 14,p0 110 .gtr 108 109]
def Aqf:List GOp:=[m0 113 0,m0 114 17,m0 115 0,m0 116 17,q0 117 .sub 116 1,m0 118 0,m0 119 17,q0 120 .sub 119 1,i0 121 9 118 120,t0 122 9 121,m0 123 0,m0 124 17,i0 125 9 123 124,t0 126 9 125,i0 127 9 113 114,s0 9 127 122,i0 128 9 115 117,s0 9 128 126]
def Aqg:List GOp:=[m0 111 17,q0 112 .sub 111 1,m0 17 112]
def Ap0:AC:=(.keep [] [(0,false),(14,false),(17,false)] [(.ext 0,false)] [] [] (.seq (.seq (.ops Aqe) (.cond (.tmp 110) .skip (.exit 6))) (.seq (.pass 7 (.draw [] Aqf)) (.ops Aqg))))
def Aqh:List GOp:=[m0 129 1,m0 130 3,p0 131 .add 129 130,o0 132 (.conv .u64 (.tmp 131)),o0 133 (.bin false .shr (.tmp 132) (.cst (.int .u64 1))),o0 134 (.conv .i64 (.tmp 133)),m0 18 134]
def Aqi:List GOp:=[m0 135 18,m0 136 2,p0 137 .add 135 136,m0 19 137]
def Aqj:List GOp:=[k0 20 0,k0 21 0]
def Aqk:List GOp:=[m0 138 2,m0 139 18,p0 140 .gtr 138 139]
def Aql:List GOp:=[m0 141 19,m0 142 3,p0 143 .sub 141 142,m0 20 143]
def Aqm:List GOp:=[m0 144 18,m0 21 144]
def Aqn:List GOp:=[m0 145 1,m0 20 145]
def Aqo:List GOp:=[m0 146 2,m0 21 146]
def Aqp:List GOp:=[m0 147 19,q0 148 .sub 147 1,m0 22 148]
def Aqq:List GOp:=[m0 149 20,m0 150 21,p0 151 .lss 149 150]
def Aqr:List GOp:=[m0 152 20,m0 153 21,p0 154 .add 152 153,o0 155 (.conv .u64 (.tmp 154)),o0 156 (.bin false .shr (.tmp 155) (.cst (.int .u64 1))),o0 157 (.conv .i64 (.tmp 156)),m0 23 157]
def Aqs:List GOp:=[m0 158 4,m0 159 0,m0 160 22,m0 161 23,p0 162 .sub 160 161,i0 163 9 159 162,t0 164 9 163,m0 165 0,m0 166 23,i0 167 9 165 166,t0 168 9 167,o0 169 (.call 0 0 (.tmp 158) [(.tmp 164),(.tmp 168)] [] []),q0 170 .lss 169 0,o0 171 (.un .not (.tmp 170))]
def Aqt:List GOp:=[m0 172 23,q0 173 .add 172 1,m0 20 173]
def Aqu:List GOp:=[m0 174 23,m0 21 174]
def Ap1:AC:=(.keep [] [(0,false),(1,false),(2,false),(3,false),(4,false),(18,false),(19,false),(20,false),(21,false),(22,false)] [(.ext 0,false)] [] [] (.seq (.seq (.ops Aqq) (.cond (.tmp 151) .skip (.exit 8))) (.pass 9 (.seq (.ops Aqr) (.seq (.draw [] Aqs) (.cond (.tmp 171) (.ops Aqt) (.ops Aqu)))))))
def Aqv:List GOp:=[m0 175 19,m0 176 20,p0 177 .sub 175 176,m0 24 177]
def Aqw:List GOp:=[m0 178 20,m0 179 2,p0 180 .lss 178 179,m0 181 180,g0 182 181 true (.mov (.tmp 2)),g0 183 181 true (.mov (.tmp 24)),g0 184 181 true (.bin false .lss (.tmp 182) (.tmp 183)),o0 185 (.pick (.tmp 181) (.tmp 184) (.cst (.bool false)))]
def Aqx:List GOp:=[m0 186 0,m0 187 20,m0 188 2,m0 189 24,m0 190 4,o0 191 (.call 0 2 (.cst (.fn 152)) [(.tmp 186),(.tmp 187),(.tmp 188),(.tmp 189),(.tmp 190)] [] [.ext 0])]
def Aqy:List GOp:=[m0 192 1,m0 193 20,p0 194 .lss 192 193,m0 195 194,g0 196 195 true (.mov (.tmp 20)),g0 197 195 true (.mov (.tmp 18)),g0 198 195 true (.bin false .lss (.tmp 196) (.tmp 197)),o0 199 (.pick (.tmp 195) (.tmp 198) (.cst (.bool false)))]
def Aqz:List GOp:=[m0 200 0,m0 201 1,m0 202 20,m0 203 18,m0 204 4,o0 205 (.call 0 2 (.cst (.fn 147)) [(.tmp 200),(.tmp 201),(.tmp 202),(.tmp 203),(.tmp 204)] [] [.ext 0])]
def Aq0:List GOp:=[m0 206 18,m0 207 24,p0 208 .lss 206 207,m0 209 208,g0 210 209 true (.mov (.tmp 24)),g0 211 209 true (.mov (.tmp 3)),g0 212 209 true (.bin false .lss (.tmp 210) (.tmp 211)),o0 213 (.pick (.tmp 209) (.tmp 212) (.cst (.bool false)))]
def Aq1:List GOp:=[m0 214 0,m0 215 18,m0 216 24,m0 217 3,m0 218 4,o0 219 (.call 0 2 (.cst (.fn 147)) [(.tmp 214),(.tmp 215),(.tmp 216),(.tmp 217),(.tmp 218)] [] [.ext 0])]
def Be8:AC:=(.seq (.seq (.ops Azp) (.cond (.tmp 28) (.seq (.ops Azq) (.seq (.ops Azr) (.seq (.block 0 (.loop [0,1,4,10,11] [] Azo)) (.seq (.seq (.keep [] [(0,false),(1,false),(10,false)] [(.ext 0,false)] [] [] (.ops Azx)) (.block 2 (.loop [0,10,13] [] Apy))) (.keep [] [] [(.ext 0,false)] [] [] (.keep [] [] [(.ext 0,false)] [] [] .ret)))))) .skip)) (.seq (.seq (.ops Ap5) (.cond (.tmp 80) (.seq (.ops Ap6) (.seq (.ops Ap7) (.seq (.block 4 (.loop [0,2,4,14,15] [] Apz)) (.seq (.seq (.keep [] [(0,false),(2,false),(14,false)] [(.ext 0,false)] [] [] (.ops Aqd)) (.block 6 (.loop [0,14,17] [] Ap0))) (.keep [] [] [(.ext 0,false)] [] [] (.keep [] [] [(.ext 0,false)] [] [] .ret)))))) .skip)) (.seq (.ops Aqh) (.seq (.ops Aqi) (.seq (.ops Aqj) (.seq (.seq (.ops Aqk) (.cond (.tmp 140) (.seq (.ops Aql) (.ops Aqm)) (.seq (.ops Aqn) (.ops Aqo)))) (.seq (.keep [] [(0,false),(1,false),(2,false),(3,false),(4,false),(18,false),(19,false),(20,false),(21,false)] [(.ext 0,false)] [] [] (.ops Aqp)) (.seq (.block 8 (.loop [0,1,2,3,4,18,19,20,21,22] [] Ap1)) (.seq (.keep [] [(0,false),(1,false),(2,false),(3,false),(4,false),(18,false),(19,false),(20,false)] [(.ext 0,false)] [] [] (.ops Aqv)) (.seq (.seq (.ops Aqw) (.cond (.tmp 185) (.ops Aqx) .skip)) (.seq (.seq (.keep [] [(0,false),(1,false),(3,false),(4,false),(18,false),(20,false),(24,false)] [(.ext 0,false)] [] [] (.ops Aqy)) (.cond (.tmp 199) (.ops Aqz) .skip)) (.seq (.keep [] [(0,false),(3,false),(4,false),(18,false),(24,false)] [(.ext 0,false)] [] [] (.ops Aq0)) (.cond (.tmp 213) (.ops Aq1) .skip)))))))))))))
def Q16:Fd:=⟨5,[],[],Be8⟩
theorem Apx:Bl Tryz.prog Tryz.f147 Q16=true:=by kernel_rfl
theorem Hc{fuel:Nat}{a1:Int}{m2:Int}{b3:Int}{l4:List Aa}{r:List Aa}(h:Bg fuel a1 m2 b3 l4=some r):A3 Tryz.prog 147 [.own (.ext 0),Vi a1,Vi m2,Vi b3,.pv (.fn 103)] [.row 9 (List.map Aa.pv l4)] ⟨.tup [],[],[(some (.row 9 (List.map Aa.pv r)))]⟩:=by
 induction fuel generalizing a1 m2 b3 l4 r with
 |zero=>unfold Bg at h;cases h
 |succ fuel ih=>
  refine Ap hm Tryz.func147 Apx (by kernel_rfl) ?_
  unfold Bg at h
  refine Ae ?_
  refine Ab Aw ?_
  refine Ar (t:=((IntKind.wrap .i64 (m2-a1))==1)) (by kernel_rfl) h (fun hc h'=>?_) (fun hc h'=>?_)
  ·replace h:=h'
   refine Ae ?_
   refine Ab Aw ?_
   refine Ae ?_
   refine Ab Aw ?_
   refine Ae ?_
   obtain⟨j5,hj5,h⟩:=Ag h
   refine W.join (j:=j5) (fun p σ=>σ.tidy [] [(0,false),(1,false),(10,false)] [(.ext 0,false)] [] []=⟨[(0,.own (.ext 0)),(1,Vi a1),(10,Vi p)],[(.ext 0,.row 9 (List.map Aa.pv l4))]⟩) ?_ (fun σj5 hsj5=>?_)
   ·refine Ch (fun q σ=>((σ.forget [0,1,4,10,11]).killAll []).tidy [] [(0,false),(1,false),(4,false),(10,false),(11,false)] [(.ext 0,false)] [] []=⟨[(0,.own (.ext 0)),(1,Vi a1),(4,.pv (.fn 103)),(10,Vi q.1),(11,Vi q.2)],[(.ext 0,.row 9 (List.map Aa.pv l4))]⟩) hj5 ?_ ?_
    ·show _=_
     kernel_rfl
    ·intro q σj5 oj5 hJj5 h
     obtain⟨i6,j7⟩:=q
     refine W.keep hJj5 ?_
     refine Ae ?_
     refine Ab Aw ?_
     refine Ar (t:=decide (i6<j7)) (by kernel_rfl) h (fun hc h'=>?_) (fun hc h'=>?_)
     ·replace h:=h'
      refine Ay ?_
      refine W.pass ?_
      refine Ab Aw ?_
      obtain⟨x8,hx8,h⟩:=Ag h
      obtain⟨x9,hx9,h⟩:=Ag h
      obtain⟨x10,hx10,h⟩:=Ag h
      refine Bx (Tw (I4 hx10) Ax) (Dw 3 (Run.dyn (B3 (k:= .ext 0) (f:=Aa.pv) (l:=l4) (n:=IntKind.wrap .i64 (Int.fdiv (IntKind.wrap .u64 (IntKind.wrap .i64 (i6+j7))) 2)) (e:=x8) (kd:= .i64) (by kernel_rfl) (by kernel_rfl) (by kernel_rfl) hx8) (Run.dyn (Co (off:=0) (k:= .ext 0) (f:=Aa.pv) (l:=l4) (i:=IntKind.wrap .i64 (Int.fdiv (IntKind.wrap .u64 (IntKind.wrap .i64 (i6+j7))) 2)) (e:=x8) (sz:=9) (v:= .pv (Aa.pv x8)) (by kernel_rfl) (by kernel_rfl) hx8 (by kernel_rfl) (by kernel_rfl)) (Dw 2 (Run.dyn (B3 (k:= .ext 0) (f:=Aa.pv) (l:=l4) (n:=a1) (e:=x9) (kd:= .i64) (by kernel_rfl) (by kernel_rfl) (by kernel_rfl) hx9) (Run.dyn (Co (off:=0) (k:= .ext 0) (f:=Aa.pv) (l:=l4) (i:=a1) (e:=x9) (sz:=9) (v:= .pv (Aa.pv x9)) (by kernel_rfl) (by kernel_rfl) hx9 (by kernel_rfl) (by kernel_rfl)) (Run.dyn (Kw 103 [] (Vi x10) Hw) Cw))))))) ?_
      refine De (t:=decide (x10<0)) (by kernel_rfl) h (fun hc h'=>?_) (fun hc h'=>?_)
      ·replace h:=h'
       refine W.ops Aw ?_
       cases h
       exact Ow
      ·replace h:=h'
       refine W.ops Aw ?_
       cases h
       exact Ow
     ·replace h:=h'
      cases h
      exact Bp ((Bh B6 (D3 (by(show _=_);kernel_rfl))))
   ·refine Ae ?_
    refine Ae ?_
    refine An hsj5 ?_
    refine Ab Aw ?_
    obtain⟨j12,hj12,h⟩:=Ag h
    refine W.join (j:=j12) (fun p σ=>σ.tidy [] [] [(.ext 0,false)] [] []=⟨[],[(.ext 0,.row 9 (List.map Aa.pv p))]⟩) ?_ (fun σj12 hsj12=>?_)
    ·refine Ch (fun q σ=>((σ.forget [0,10,13]).killAll []).tidy [] [(0,false),(10,false),(13,false)] [(.ext 0,false)] [] []=⟨[(0,.own (.ext 0)),(10,Vi j5),(13,Vi q.1)],[(.ext 0,.row 9 (List.map Aa.pv q.2))]⟩) hj12 ?_ ?_
     ·show _=_
      kernel_rfl
     ·intro q σj12 oj12 hJj12 h
      obtain⟨k13,row14⟩:=q
      refine W.keep hJj12 ?_
      refine Ae ?_
      refine Ab Aw ?_
      refine Ar (t:=decide (k13<(IntKind.wrap .i64 (j5-1)))) (by kernel_rfl) h (fun hc h'=>?_) (fun hc h'=>?_)
      ·replace h:=h'
       refine Ay ?_
       refine Bs ?_
       obtain⟨x15,hx15,h⟩:=Ag h
       obtain⟨x16,hx16,h⟩:=Ag h
       obtain⟨x17,hx17,h⟩:=Ag h
       obtain⟨x18,hx18,h⟩:=Ag h
       refine Bx Ax (Dw 8 (Run.dyn (B3 (k:= .ext 0) (f:=Aa.pv) (l:=row14) (n:=IntKind.wrap .i64 (k13+1)) (e:=x15) (kd:= .i64) (by kernel_rfl) (by kernel_rfl) (by kernel_rfl) hx15) (Run.dyn (Co (off:=0) (k:= .ext 0) (f:=Aa.pv) (l:=row14) (i:=IntKind.wrap .i64 (k13+1)) (e:=x15) (sz:=9) (v:= .pv (Aa.pv x15)) (by kernel_rfl) (by kernel_rfl) hx15 (by kernel_rfl) (by kernel_rfl)) (Dw 2 (Run.dyn (B3 (k:= .ext 0) (f:=Aa.pv) (l:=row14) (n:=k13) (e:=x16) (kd:= .i64) (by kernel_rfl) (by kernel_rfl) (by kernel_rfl) hx16) (Run.dyn (Co (off:=0) (k:= .ext 0) (f:=Aa.pv) (l:=row14) (i:=k13) (e:=x16) (sz:=9) (v:= .pv (Aa.pv x16)) (by kernel_rfl) (by kernel_rfl) hx16 (by kernel_rfl) (by kernel_rfl)) (Run.dyn (B3 (k:= .ext 0) (f:=Aa.pv) (l:=row14) (n:=k13) (e:=x17) (kd:= .i64) (by kernel_rfl) (by kernel_rfl) (by kernel_rfl) hx17) (Run.dyn (Ec (sz:=9) (off:=0) (k:= .ext 0) (f:=Aa.pv) (l:=row14) (i:=k13) (e:=x17) (e':=x15) (v:=(Aa.pv x15)) (by kernel_rfl) (by kernel_rfl) (by kernel_rfl) hx17 (by kernel_rfl) (by kernel_rfl)) (Run.dyn (B3 (k:= .ext 0) (f:=Aa.pv) (l:=(List.set row14 (Int.toNat k13) x15)) (n:=IntKind.wrap .i64 (k13+1)) (e:=x18) (kd:= .i64) (by kernel_rfl) (by kernel_rfl) (by kernel_rfl) hx18) (Run.dyn (Ec (sz:=9) (off:=0) (k:= .ext 0) (f:=Aa.pv) (l:=(List.set row14 (Int.toNat k13) x15)) (i:=IntKind.wrap .i64 (k13+1)) (e:=x18) (e':=x16) (v:=(Aa.pv x16)) (by kernel_rfl) (by kernel_rfl) (by kernel_rfl) hx18 (by kernel_rfl) (by kernel_rfl)) ((Run.nil)))))))))))) ?_
       refine W.ops Aw ?_
       cases h
       exact Ow
      ·replace h:=h'
       cases h
       exact Bp ((Bh B6 (D3 (by(show _=_);kernel_rfl))))
    ·refine An hsj12 ?_
     refine An rfl ?_
     cases h
     exact A8 Fw
  ·replace h:=h'
   refine Ay ?_
   refine Ae ?_
   refine Ab Aw ?_
   refine Ar (t:=((IntKind.wrap .i64 (b3-m2))==1)) (by kernel_rfl) h (fun hc h'=>?_) (fun hc h'=>?_)
   ·replace h:=h'
    refine Ae ?_
    refine Ab Aw ?_
    refine Ae ?_
    refine Ab Aw ?_
    refine Ae ?_
    obtain⟨j20,hj20,h⟩:=Ag h
    refine W.join (j:=j20) (fun p σ=>σ.tidy [] [(0,false),(2,false),(14,false)] [(.ext 0,false)] [] []=⟨[(0,.own (.ext 0)),(2,Vi m2),(14,Vi p)],[(.ext 0,.row 9 (List.map Aa.pv l4))]⟩) ?_ (fun σj20 hsj20=>?_)
    ·refine Ch (fun q σ=>((σ.forget [0,2,4,14,15]).killAll []).tidy [] [(0,false),(2,false),(4,false),(14,false),(15,false)] [(.ext 0,false)] [] []=⟨[(0,.own (.ext 0)),(2,Vi m2),(4,.pv (.fn 103)),(14,Vi q.1),(15,Vi q.2)],[(.ext 0,.row 9 (List.map Aa.pv l4))]⟩) hj20 ?_ ?_
     ·show _=_
      kernel_rfl
     ·intro q σj20 oj20 hJj20 h
      obtain⟨i21,j22⟩:=q
      refine W.keep hJj20 ?_
      refine Ae ?_
      refine Ab Aw ?_
      refine Ar (t:=decide (i21<j22)) (by kernel_rfl) h (fun hc h'=>?_) (fun hc h'=>?_)
      ·replace h:=h'
       refine Ay ?_
       refine W.pass ?_
       refine Ab Aw ?_
       obtain⟨x23,hx23,h⟩:=Ag h
       obtain⟨x24,hx24,h⟩:=Ag h
       obtain⟨x25,hx25,h⟩:=Ag h
       refine Bx (Tw (I4 hx25) Ax) (Dw 3 (Run.dyn (B3 (k:= .ext 0) (f:=Aa.pv) (l:=l4) (n:=m2) (e:=x23) (kd:= .i64) (by kernel_rfl) (by kernel_rfl) (by kernel_rfl) hx23) (Run.dyn (Co (off:=0) (k:= .ext 0) (f:=Aa.pv) (l:=l4) (i:=m2) (e:=x23) (sz:=9) (v:= .pv (Aa.pv x23)) (by kernel_rfl) (by kernel_rfl) hx23 (by kernel_rfl) (by kernel_rfl)) (Dw 2 (Run.dyn (B3 (k:= .ext 0) (f:=Aa.pv) (l:=l4) (n:=IntKind.wrap .i64 (Int.fdiv (IntKind.wrap .u64 (IntKind.wrap .i64 (i21+j22))) 2)) (e:=x24) (kd:= .i64) (by kernel_rfl) (by kernel_rfl) (by kernel_rfl) hx24) (Run.dyn (Co (off:=0) (k:= .ext 0) (f:=Aa.pv) (l:=l4) (i:=IntKind.wrap .i64 (Int.fdiv (IntKind.wrap .u64 (IntKind.wrap .i64 (i21+j22))) 2)) (e:=x24) (sz:=9) (v:= .pv (Aa.pv x24)) (by kernel_rfl) (by kernel_rfl) hx24 (by kernel_rfl) (by kernel_rfl)) (Run.dyn (Kw 103 [] (Vi x25) Hw) Cw))))))) ?_
       refine De (t:= !(decide (x25<0))) (by kernel_rfl) h (fun hc h'=>?_) (fun hc h'=>?_)
       ·replace h:=h'
        refine W.ops Aw ?_
        cases h
        exact Ow
       ·replace h:=h'
        refine W.ops Aw ?_
        cases h
        exact Ow
      ·replace h:=h'
       cases h
       exact Bp ((Bh B6 (D3 (by(show _=_);kernel_rfl))))
    ·refine Ae ?_
     refine Ae ?_
     refine An hsj20 ?_
     refine Ab Aw ?_
     obtain⟨j27,hj27,h⟩:=Ag h
     refine W.join (j:=j27) (fun p σ=>σ.tidy [] [] [(.ext 0,false)] [] []=⟨[],[(.ext 0,.row 9 (List.map Aa.pv p))]⟩) ?_ (fun σj27 hsj27=>?_)
     ·refine Ch (fun q σ=>((σ.forget [0,14,17]).killAll []).tidy [] [(0,false),(14,false),(17,false)] [(.ext 0,false)] [] []=⟨[(0,.own (.ext 0)),(14,Vi j20),(17,Vi q.1)],[(.ext 0,.row 9 (List.map Aa.pv q.2))]⟩) hj27 ?_ ?_
      ·show _=_
       kernel_rfl
      ·intro q σj27 oj27 hJj27 h
       obtain⟨k28,row29⟩:=q
       refine W.keep hJj27 ?_
       refine Ae ?_
       refine Ab Aw ?_
       refine Ar (t:=decide (k28>j20)) (by kernel_rfl) h (fun hc h'=>?_) (fun hc h'=>?_)
       ·replace h:=h'
        refine Ay ?_
        refine Bs ?_
        obtain⟨x30,hx30,h⟩:=Ag h
        obtain⟨x31,hx31,h⟩:=Ag h
        obtain⟨x32,hx32,h⟩:=Ag h
        obtain⟨x33,hx33,h⟩:=Ag h
        refine Bx Ax (Dw 8 (Run.dyn (B3 (k:= .ext 0) (f:=Aa.pv) (l:=row29) (n:=IntKind.wrap .i64 (k28-1)) (e:=x30) (kd:= .i64) (by kernel_rfl) (by kernel_rfl) (by kernel_rfl) hx30) (Run.dyn (Co (off:=0) (k:= .ext 0) (f:=Aa.pv) (l:=row29) (i:=IntKind.wrap .i64 (k28-1)) (e:=x30) (sz:=9) (v:= .pv (Aa.pv x30)) (by kernel_rfl) (by kernel_rfl) hx30 (by kernel_rfl) (by kernel_rfl)) (Dw 2 (Run.dyn (B3 (k:= .ext 0) (f:=Aa.pv) (l:=row29) (n:=k28) (e:=x31) (kd:= .i64) (by kernel_rfl) (by kernel_rfl) (by kernel_rfl) hx31) (Run.dyn (Co (off:=0) (k:= .ext 0) (f:=Aa.pv) (l:=row29) (i:=k28) (e:=x31) (sz:=9) (v:= .pv (Aa.pv x31)) (by kernel_rfl) (by kernel_rfl) hx31 (by kernel_rfl) (by kernel_rfl)) (Run.dyn (B3 (k:= .ext 0) (f:=Aa.pv) (l:=row29) (n:=k28) (e:=x32) (kd:= .i64) (by kernel_rfl) (by kernel_rfl) (by kernel_rfl) hx32) (Run.dyn (Ec (sz:=9) (off:=0) (k:= .ext 0) (f:=Aa.pv) (l:=row29) (i:=k28) (e:=x32) (e':=x30) (v:=(Aa.pv x30)) (by kernel_rfl) (by kernel_rfl) (by kernel_rfl) hx32 (by kernel_rfl) (by kernel_rfl)) (Run.dyn (B3 (k:= .ext 0) (f:=Aa.pv) (l:=(List.set row29 (Int.toNat k28) x30)) (n:=IntKind.wrap .i64 (k28-1)) (e:=x33) (kd:= .i64) (by kernel_rfl) (by kernel_rfl) (by kernel_rfl) hx33) (Run.dyn (Ec (sz:=9) (off:=0) (k:= .ext 0) (f:=Aa.pv) (l:=(List.set row29 (Int.toNat k28) x30)) (i:=IntKind.wrap .i64 (k28-1)) (e:=x33) (e':=x31) (v:=(Aa.pv x31)) (by kernel_rfl) (by kernel_rfl) (by kernel_rfl) hx33 (by kernel_rfl) (by kernel_rfl)) ((Run.nil)))))))))))) ?_
        refine W.ops Aw ?_
        cases h
        exact Ow
       ·replace h:=h'
        cases h
        exact Bp ((Bh B6 (D3 (by(show _=_);kernel_rfl))))
     ·refine An hsj27 ?_
      refine An rfl ?_
      cases h
      exact A8 Fw
   ·replace h:=h'
    refine Ay ?_
    refine Ab Aw ?_
    refine Ab Aw ?_
    refine Ab Aw ?_
    refine Ae ?_
    refine Ab Aw ?_
    obtain⟨j35,hj35,h⟩:=Ag h
    refine W.join (j:=j35) (fun p σ=>σ.tidy [] [(0,false),(1,false),(2,false),(3,false),(4,false),(18,false),(19,false),(20,false),(21,false)] [(.ext 0,false)] [] []=⟨[(0,.own (.ext 0)),(1,Vi a1),(2,Vi m2),(3,Vi b3),(4,.pv (.fn 103)),(18,Vi (IntKind.wrap .i64 (Int.fdiv (IntKind.wrap .u64 (IntKind.wrap .i64 (a1+b3))) 2))),(19,Vi (IntKind.wrap .i64 ((IntKind.wrap .i64 (Int.fdiv (IntKind.wrap .u64 (IntKind.wrap .i64 (a1+b3))) 2))+m2))),(20,Vi p.1),(21,Vi p.2)],[(.ext 0,.row 9 (List.map Aa.pv l4))]⟩) ?_ (fun σj35 hsj35=>?_)
    ·replace h:=hj35
     refine De (t:=decide (m2>(IntKind.wrap .i64 (Int.fdiv (IntKind.wrap .u64 (IntKind.wrap .i64 (a1+b3))) 2)))) (by kernel_rfl) h (fun hc h'=>?_) (fun hc h'=>?_)
     ·replace h:=h'
      refine Ab Aw ?_
      refine W.ops Aw ?_
      cases h
      exact Jw
     ·replace h:=h'
      refine Ab Aw ?_
      refine W.ops Aw ?_
      cases h
      exact Jw
    ·obtain⟨start36,r37⟩:=j35
     refine An hsj35 ?_
     refine Ab Aw ?_
     obtain⟨j38,hj38,h⟩:=Ag h
     refine W.join (j:=j38) (fun p σ=>σ.tidy [] [(0,false),(1,false),(2,false),(3,false),(4,false),(18,false),(19,false),(20,false)] [(.ext 0,false)] [] []=⟨[(0,.own (.ext 0)),(1,Vi a1),(2,Vi m2),(3,Vi b3),(4,.pv (.fn 103)),(18,Vi (IntKind.wrap .i64 (Int.fdiv (IntKind.wrap .u64 (IntKind.wrap .i64 (a1+b3))) 2))),(19,Vi (IntKind.wrap .i64 ((IntKind.wrap .i64 (Int.fdiv (IntKind.wrap .u64 (IntKind.wrap .i64 (a1+b3))) 2))+m2))),(20,Vi p)],[(.ext 0,.row 9 (List.map Aa.pv l4))]⟩) ?_ (fun σj38 hsj38=>?_)
     ·refine Ch (fun q σ=>((σ.forget [0,1,2,3,4,18,19,20,21,22]).killAll []).tidy [] [(0,false),(1,false),(2,false),(3,false),(4,false),(18,false),(19,false),(20,false),(21,false),(22,false)] [(.ext 0,false)] [] []=⟨[(0,.own (.ext 0)),(1,Vi a1),(2,Vi m2),(3,Vi b3),(4,.pv (.fn 103)),(18,Vi (IntKind.wrap .i64 (Int.fdiv (IntKind.wrap .u64 (IntKind.wrap .i64 (a1+b3))) 2))),(19,Vi (IntKind.wrap .i64 ((IntKind.wrap .i64 (Int.fdiv (IntKind.wrap .u64 (IntKind.wrap .i64 (a1+b3))) 2))+m2))),(20,Vi q.1),(21,Vi q.2),(22,Vi (IntKind.wrap .i64 ((IntKind.wrap .i64 ((IntKind.wrap .i64 (Int.fdiv (IntKind.wrap .u64 (IntKind.wrap .i64 (a1+b3))) 2))+m2))-1)))],[(.ext 0,.row 9 (List.map Aa.pv l4))]⟩) hj38 ?_ ?_
      ·show _=_
       kernel_rfl
      ·intro q σj38 oj38 hJj38 h
       obtain⟨start39,r40⟩:=q
       refine W.keep hJj38 ?_
       refine Ae ?_
       refine Ab Aw ?_
       refine Ar (t:=decide (start39<r40)) (by kernel_rfl) h (fun hc h'=>?_) (fun hc h'=>?_)
       ·replace h:=h'
        refine Ay ?_
        refine W.pass ?_
        refine Ab Aw ?_
        obtain⟨x41,hx41,h⟩:=Ag h
        obtain⟨x42,hx42,h⟩:=Ag h
        obtain⟨x43,hx43,h⟩:=Ag h
        refine Bx (Tw (I4 hx43) Ax) (Dw 5 (Run.dyn (B3 (k:= .ext 0) (f:=Aa.pv) (l:=l4) (n:=IntKind.wrap .i64 ((IntKind.wrap .i64 ((IntKind.wrap .i64 ((IntKind.wrap .i64 (Int.fdiv (IntKind.wrap .u64 (IntKind.wrap .i64 (a1+b3))) 2))+m2))-1))-(IntKind.wrap .i64 (Int.fdiv (IntKind.wrap .u64 (IntKind.wrap .i64 (start39+r40))) 2)))) (e:=x41) (kd:= .i64) (by kernel_rfl) (by kernel_rfl) (by kernel_rfl) hx41) (Run.dyn (Co (off:=0) (k:= .ext 0) (f:=Aa.pv) (l:=l4) (i:=IntKind.wrap .i64 ((IntKind.wrap .i64 ((IntKind.wrap .i64 ((IntKind.wrap .i64 (Int.fdiv (IntKind.wrap .u64 (IntKind.wrap .i64 (a1+b3))) 2))+m2))-1))-(IntKind.wrap .i64 (Int.fdiv (IntKind.wrap .u64 (IntKind.wrap .i64 (start39+r40))) 2)))) (e:=x41) (sz:=9) (v:= .pv (Aa.pv x41)) (by kernel_rfl) (by kernel_rfl) hx41 (by kernel_rfl) (by kernel_rfl)) (Dw 2 (Run.dyn (B3 (k:= .ext 0) (f:=Aa.pv) (l:=l4) (n:=IntKind.wrap .i64 (Int.fdiv (IntKind.wrap .u64 (IntKind.wrap .i64 (start39+r40))) 2)) (e:=x42) (kd:= .i64) (by kernel_rfl) (by kernel_rfl) (by kernel_rfl) hx42) (Run.dyn (Co (off:=0) (k:= .ext 0) (f:=Aa.pv) (l:=l4) (i:=IntKind.wrap .i64 (Int.fdiv (IntKind.wrap .u64 (IntKind.wrap .i64 (start39+r40))) 2)) (e:=x42) (sz:=9) (v:= .pv (Aa.pv x42)) (by kernel_rfl) (by kernel_rfl) hx42 (by kernel_rfl) (by kernel_rfl)) (Run.dyn (Kw 103 [] (Vi x43) Hw) Cw))))))) ?_
        refine De (t:= !(decide (x43<0))) (by kernel_rfl) h (fun hc h'=>?_) (fun hc h'=>?_)
        ·replace h:=h'
         refine W.ops Aw ?_
         cases h
         exact Ow
        ·replace h:=h'
         refine W.ops Aw ?_
         cases h
         exact Ow
       ·replace h:=h'
        cases h
        exact Bp ((Bh B6 (D3 (by(show _=_);kernel_rfl))))
     ·refine An hsj38 ?_
      refine Ab Aw ?_
      refine Ae ?_
      obtain⟨c45,hc45,h⟩:=Ag h
      refine Ab (Bw 3 (Aj.dyn (Nw (decide (j38<m2)) c45 hc45) (Aj.puts 4 [(185,Vb (c45&&(decide (m2<(IntKind.wrap .i64 ((IntKind.wrap .i64 ((IntKind.wrap .i64 (Int.fdiv (IntKind.wrap .u64 (IntKind.wrap .i64 (a1+b3))) 2))+m2))-j38)))))),(184,(Bf c45 (Vb (decide (m2<(IntKind.wrap .i64 ((IntKind.wrap .i64 ((IntKind.wrap .i64 (Int.fdiv (IntKind.wrap .u64 (IntKind.wrap .i64 (a1+b3))) 2))+m2))-j38))))))),(183,(Bf c45 (Vi (IntKind.wrap .i64 ((IntKind.wrap .i64 ((IntKind.wrap .i64 (Int.fdiv (IntKind.wrap .u64 (IntKind.wrap .i64 (a1+b3))) 2))+m2))-j38))))),(182,(Bf c45 (Vi m2)))] (by cases c45<;>kernel_rfl) ((.nil _))))) ?_
      obtain⟨j46,hj46,h⟩:=Ag h
      refine W.join (j:=j46) (fun p σ=>σ.tidy [] [(0,false),(1,false),(3,false),(4,false),(18,false),(20,false),(24,false)] [(.ext 0,false)] [] []=⟨[(0,.own (.ext 0)),(1,Vi a1),(3,Vi b3),(4,.pv (.fn 103)),(18,Vi (IntKind.wrap .i64 (Int.fdiv (IntKind.wrap .u64 (IntKind.wrap .i64 (a1+b3))) 2))),(20,Vi j38),(24,Vi (IntKind.wrap .i64 ((IntKind.wrap .i64 ((IntKind.wrap .i64 (Int.fdiv (IntKind.wrap .u64 (IntKind.wrap .i64 (a1+b3))) 2))+m2))-j38)))],[(.ext 0,.row 9 (List.map Aa.pv p))]⟩) ?_ (fun σj46 hsj46=>?_)
      ·replace h:=hj46
       refine De (t:=(c45&&(decide (m2<(IntKind.wrap .i64 ((IntKind.wrap .i64 ((IntKind.wrap .i64 (Int.fdiv (IntKind.wrap .u64 (IntKind.wrap .i64 (a1+b3))) 2))+m2))-j38)))))) (by kernel_rfl) h (fun hc h'=>?_) (fun hc h'=>?_)
       ·replace h:=h'
        obtain⟨x47,hx47,h⟩:=Ag h
        refine W.ops (Bw 5 (Aj.cons (Tw (Lj hx47) Ax) (Cx (g:=152) (caps:=[]) (v:= .tup []) (ins:=[]) rfl (by kernel_rfl) (by kernel_rfl) (by kernel_rfl) Hw (by kernel_rfl) (by kernel_rfl)) ((.nil _)))) ?_
        cases h
        exact Jw
       ·replace h:=h'
        cases h
        exact W.skip Jw
      ·refine Ae ?_
       refine An hsj46 ?_
       obtain⟨c49,hc49,h⟩:=Ag h
       refine Ab (Bw 3 (Aj.dyn (Nw (decide (a1<j38)) c49 hc49) (Aj.puts 4 [(199,Vb (c49&&(decide (j38<(IntKind.wrap .i64 (Int.fdiv (IntKind.wrap .u64 (IntKind.wrap .i64 (a1+b3))) 2)))))),(198,(Bf c49 (Vb (decide (j38<(IntKind.wrap .i64 (Int.fdiv (IntKind.wrap .u64 (IntKind.wrap .i64 (a1+b3))) 2))))))),(197,(Bf c49 (Vi (IntKind.wrap .i64 (Int.fdiv (IntKind.wrap .u64 (IntKind.wrap .i64 (a1+b3))) 2))))),(196,(Bf c49 (Vi j38)))] (by cases c49<;>kernel_rfl) ((.nil _))))) ?_
       obtain⟨j50,hj50,h⟩:=Ag h
       refine W.join (j:=j50) (fun p σ=>σ.tidy [] [(0,false),(3,false),(4,false),(18,false),(24,false)] [(.ext 0,false)] [] []=⟨[(0,.own (.ext 0)),(3,Vi b3),(4,.pv (.fn 103)),(18,Vi (IntKind.wrap .i64 (Int.fdiv (IntKind.wrap .u64 (IntKind.wrap .i64 (a1+b3))) 2))),(24,Vi (IntKind.wrap .i64 ((IntKind.wrap .i64 ((IntKind.wrap .i64 (Int.fdiv (IntKind.wrap .u64 (IntKind.wrap .i64 (a1+b3))) 2))+m2))-j38)))],[(.ext 0,.row 9 (List.map Aa.pv p))]⟩) ?_ (fun σj50 hsj50=>?_)
       ·replace h:=hj50
        refine De (t:=(c49&&(decide (j38<(IntKind.wrap .i64 (Int.fdiv (IntKind.wrap .u64 (IntKind.wrap .i64 (a1+b3))) 2)))))) (by kernel_rfl) h (fun hc h'=>?_) (fun hc h'=>?_)
        ·replace h:=h'
         obtain⟨x51,hx51,h⟩:=Ag h
         refine W.ops (Bw 5 (Aj.cons (Tw (ih hx51) Ax) (Cx (g:=147) (caps:=[]) (v:= .tup []) (ins:=[]) rfl (by kernel_rfl) (by kernel_rfl) (by kernel_rfl) Hw (by kernel_rfl) (by kernel_rfl)) ((.nil _)))) ?_
         cases h
         exact Jw
        ·replace h:=h'
         cases h
         exact W.skip Jw
       ·refine An hsj50 ?_
        obtain⟨c53,hc53,h⟩:=Ag h
        refine Ab (Bw 3 (Aj.dyn (Nw (decide ((IntKind.wrap .i64 (Int.fdiv (IntKind.wrap .u64 (IntKind.wrap .i64 (a1+b3))) 2))<(IntKind.wrap .i64 ((IntKind.wrap .i64 ((IntKind.wrap .i64 (Int.fdiv (IntKind.wrap .u64 (IntKind.wrap .i64 (a1+b3))) 2))+m2))-j38)))) c53 hc53) (Aj.puts 4 [(213,Vb (c53&&(decide ((IntKind.wrap .i64 ((IntKind.wrap .i64 ((IntKind.wrap .i64 (Int.fdiv (IntKind.wrap .u64 (IntKind.wrap .i64 (a1+b3))) 2))+m2))-j38))<b3)))),(212,(Bf c53 (Vb (decide ((IntKind.wrap .i64 ((IntKind.wrap .i64 ((IntKind.wrap .i64 (Int.fdiv (IntKind.wrap .u64 (IntKind.wrap .i64 (a1+b3))) 2))+m2))-j38))<b3))))),(211,(Bf c53 (Vi b3))),(210,(Bf c53 (Vi (IntKind.wrap .i64 ((IntKind.wrap .i64 ((IntKind.wrap .i64 (Int.fdiv (IntKind.wrap .u64 (IntKind.wrap .i64 (a1+b3))) 2))+m2))-j38)))))] (by cases c53<;>kernel_rfl) ((.nil _))))) ?_
        refine De (t:=(c53&&(decide ((IntKind.wrap .i64 ((IntKind.wrap .i64 ((IntKind.wrap .i64 (Int.fdiv (IntKind.wrap .u64 (IntKind.wrap .i64 (a1+b3))) 2))+m2))-j38))<b3)))) (by kernel_rfl) h (fun hc h'=>?_) (fun hc h'=>?_)
        ·replace h:=h'
         obtain⟨x54,hx54,h⟩:=Ag h
         refine W.ops (Bw 5 (Aj.cons (Tw (ih hx54) Ax) (Cx (g:=147) (caps:=[]) (v:= .tup []) (ins:=[]) rfl (by kernel_rfl) (by kernel_rfl) (by kernel_rfl) Hw (by kernel_rfl) (by kernel_rfl)) ((.nil _)))) ?_
         cases h
         exact(Mk (by kernel_rfl))
        ·replace h:=h'
         cases h
         exact W.skip ((Mk (by kernel_rfl)))
def A04:List GOp:=[k0 6 20]
def A05:List GOp:=[m0 10 6,k0 7 0,m0 8 10]
def A06:List GOp:=[m0 11 8,m0 12 1,p0 13 .leq 11 12]
def A07:List GOp:=[m0 14 0,m0 15 7,m0 16 8,m0 17 2,o0 18 (.call 0 2 (.cst (.fn 146)) [(.tmp 14),(.tmp 15),(.tmp 16),(.tmp 17)] [] [.ext 0])]
def A08:List GOp:=[m0 19 8,m0 7 19]
def A09:List GOp:=[m0 20 8,m0 21 6,p0 22 .add 20 21,m0 8 22]
def A03:AC:=(.keep [] [(0,false),(1,false),(2,false),(6,false),(7,false),(8,false)] [(.ext 0,false)] [] [] (.seq (.seq (.ops A06) (.cond (.tmp 13) .skip (.exit 0))) (.pass 1 (.seq (.ops A07) (.seq (.ops A08) (.ops A09))))))
def A1a:List GOp:=[m0 23 0,m0 24 7,m0 25 1,m0 26 2,o0 27 (.call 0 2 (.cst (.fn 146)) [(.tmp 23),(.tmp 24),(.tmp 25),(.tmp 26)] [] [.ext 0])]
def A1b:List GOp:=[m0 28 6,m0 29 1,p0 30 .lss 28 29]
def A1c:List GOp:=[m0 31 6,o0 32 (.bin false .mul (.cst (.int .i64 2)) (.tmp 31)),k0 7 0,m0 8 32]
def Arb:List GOp:=[m0 33 8,m0 34 1,p0 35 .leq 33 34]
def Arc:List GOp:=[m0 36 0,m0 37 7,m0 38 7,m0 39 6,p0 40 .add 38 39,m0 41 8,m0 42 2,o0 43 (.call 0 2 (.cst (.fn 147)) [(.tmp 36),(.tmp 37),(.tmp 40),(.tmp 41),(.tmp 42)] [] [.ext 0])]
def Ard:List GOp:=[m0 44 8,m0 7 44]
def Are:List GOp:=[m0 45 8,m0 46 6,o0 47 (.bin false .mul (.cst (.int .i64 2)) (.tmp 46)),p0 48 .add 45 47,m0 8 48]
def Aq9:AC:=(.keep [] [(0,false),(1,false),(2,false),(6,false),(7,false),(8,false)] [(.ext 0,false)] [] [] (.seq (.seq (.ops Arb) (.cond (.tmp 35) .skip (.exit 4))) (.pass 5 (.seq (.ops Arc) (.seq (.ops Ard) (.ops Are))))))
def Arf:List GOp:=[m0 49 7,m0 50 6,p0 51 .add 49 50,m0 9 51]
def Arg:List GOp:=[m0 52 9,m0 53 1,p0 54 .lss 52 53]
def Arh:List GOp:=[m0 55 0,m0 56 7,m0 57 9,m0 58 1,m0 59 2,o0 60 (.call 0 2 (.cst (.fn 147)) [(.tmp 55),(.tmp 56),(.tmp 57),(.tmp 58),(.tmp 59)] [] [.ext 0])]
def Ari:List GOp:=[m0 61 6,q0 62 .mul 61 2,m0 6 62]
def Ara:AC:=(.keep [] [(0,false),(1,false),(2,false),(6,false)] [(.ext 0,false)] [] [] (.seq (.seq (.ops A1b) (.cond (.tmp 30) .skip (.keep [] [] [(.ext 0,false)] [] [] (.exit 2)))) (.pass 3 (.seq (.ops A1c) (.seq (.block 4 (.loop [0,1,2,6,7,8] [] Aq9)) (.seq (.seq (.keep [] [(0,false),(1,false),(2,false),(6,false),(7,false)] [(.ext 0,false)] [] [] (.ops Arf)) (.seq (.ops Arg) (.cond (.tmp 54) (.ops Arh) .skip))) (.keep [] [(0,false),(1,false),(2,false),(6,false)] [(.ext 0,false)] [] [] (.ops Ari))))))))
def Bfp:AC:=(.seq (.ops A04) (.seq (.ops A05) (.seq (.block 0 (.loop [0,1,2,6,7,8] [] A03)) (.seq (.keep [] [(0,false),(1,false),(2,false),(6,false),(7,false)] [(.ext 0,false)] [] [] (.ops A1a)) (.block 2 (.loop [0,1,2,6] [] Ara))))))
def Q23:Fd:=⟨3,[],[],Bfp⟩
theorem Aq8:Bl Tryz.prog Tryz.f133 Q23=true:=by kernel_rfl
theorem Lk{n1:Int}{l2:List Aa}{r:List Aa}(h:Fa n1 l2=some r):A3 Tryz.prog 133 [.own (.ext 0),Vi n1,.pv (.fn 103)] [.row 9 (List.map Aa.pv l2)] ⟨.tup [],[],[(some (.row 9 (List.map Aa.pv r)))]⟩:=by
 refine Ap hm Tryz.func133 Aq8 (by kernel_rfl) ?_
 unfold Fa at h
 refine Ab Aw ?_
 refine Ab Aw ?_
 obtain⟨j3,hj3,h⟩:=Ag h
 refine W.join (j:=j3) (fun p σ=>σ.tidy [] [(0,false),(1,false),(2,false),(6,false),(7,false)] [(.ext 0,false)] [] []=⟨[(0,.own (.ext 0)),(1,Vi n1),(2,.pv (.fn 103)),(6,Vi 20),(7,Vi p.1)],[(.ext 0,.row 9 (List.map Aa.pv p.2))]⟩) ?_ (fun σj3 hsj3=>?_)
 ·refine Ch (fun q σ=>((σ.forget [0,1,2,6,7,8]).killAll []).tidy [] [(0,false),(1,false),(2,false),(6,false),(7,false),(8,false)] [(.ext 0,false)] [] []=⟨[(0,.own (.ext 0)),(1,Vi n1),(2,.pv (.fn 103)),(6,Vi 20),(7,Vi q.1),(8,Vi q.2.1)],[(.ext 0,.row 9 (List.map Aa.pv q.2.2))]⟩) hj3 ?_ ?_
  ·show _=_
   kernel_rfl
  ·intro q σj3 oj3 hJj3 h
   obtain⟨a4,b5,row6⟩:=q
   refine W.keep hJj3 ?_
   refine Ae ?_
   refine Ab Aw ?_
   refine Ar (t:=decide (b5≤n1)) (by kernel_rfl) h (fun hc h'=>?_) (fun hc h'=>?_)
   ·replace h:=h'
    refine Ay ?_
    refine W.pass ?_
    obtain⟨x7,hx7,h⟩:=Ag h
    refine Ab (Bw 4 (Aj.cons (Tw (F1 hx7) Ax) (Cx (g:=146) (caps:=[]) (v:= .tup []) (ins:=[]) rfl (by kernel_rfl) (by kernel_rfl) (by kernel_rfl) Hw (by kernel_rfl) (by kernel_rfl)) ((.nil _)))) ?_
    refine Ab Aw ?_
    refine W.ops Aw ?_
    cases h
    exact Ow
   ·replace h:=h'
    cases h
    exact Bp ((Bh B6 (D3 (by(show _=_);kernel_rfl))))
 ·obtain⟨a8,row9⟩:=j3
  refine An hsj3 ?_
  obtain⟨x10,hx10,h⟩:=Ag h
  refine Ab (Bw 4 (Aj.cons (Tw (F1 hx10) Ax) (Cx (g:=146) (caps:=[]) (v:= .tup []) (ins:=[]) rfl (by kernel_rfl) (by kernel_rfl) (by kernel_rfl) Hw (by kernel_rfl) (by kernel_rfl)) ((.nil _)))) ?_
  obtain⟨j11,hj11,h⟩:=Ag h
  refine W.mono (Q:=Ux (fun p σ=>σ=⟨[],[(.ext 0,.row 9 (List.map Aa.pv p))]⟩) j11) ?_ (fun ex σj11 hp=>?_)
  ·refine Ch (fun q σ=>((σ.forget [0,1,2,6]).killAll []).tidy [] [(0,false),(1,false),(2,false),(6,false)] [(.ext 0,false)] [] []=⟨[(0,.own (.ext 0)),(1,Vi n1),(2,.pv (.fn 103)),(6,Vi q.1)],[(.ext 0,.row 9 (List.map Aa.pv q.2))]⟩) hj11 ?_ ?_
   ·show _=_
    kernel_rfl
   ·intro q σj11 oj11 hJj11 h
    obtain⟨blockSize12,row13⟩:=q
    refine W.keep hJj11 ?_
    refine Ae ?_
    refine Ab Aw ?_
    refine Ar (t:=decide (blockSize12<n1)) (by kernel_rfl) h (fun hc h'=>?_) (fun hc h'=>?_)
    ·replace h:=h'
     refine Ay ?_
     refine W.pass ?_
     refine Ab Aw ?_
     obtain⟨j14,hj14,h⟩:=Ag h
     refine W.join (j:=j14) (fun p σ=>σ.tidy [] [(0,false),(1,false),(2,false),(6,false),(7,false)] [(.ext 0,false)] [] []=⟨[(0,.own (.ext 0)),(1,Vi n1),(2,.pv (.fn 103)),(6,Vi blockSize12),(7,Vi p.1)],[(.ext 0,.row 9 (List.map Aa.pv p.2))]⟩) ?_ (fun σj14 hsj14=>?_)
     ·refine Ch (fun q σ=>((σ.forget [0,1,2,6,7,8]).killAll []).tidy [] [(0,false),(1,false),(2,false),(6,false),(7,false),(8,false)] [(.ext 0,false)] [] []=⟨[(0,.own (.ext 0)),(1,Vi n1),(2,.pv (.fn 103)),(6,Vi blockSize12),(7,Vi q.1),(8,Vi q.2.1)],[(.ext 0,.row 9 (List.map Aa.pv q.2.2))]⟩) hj14 ?_ ?_
      ·show _=_
       kernel_rfl
      ·intro q σj14 oj14 hJj14 h
       obtain⟨a15,b16,row17⟩:=q
       refine W.keep hJj14 ?_
       refine Ae ?_
       refine Ab Aw ?_
       refine Ar (t:=decide (b16≤n1)) (by kernel_rfl) h (fun hc h'=>?_) (fun hc h'=>?_)
       ·replace h:=h'
        refine Ay ?_
        refine W.pass ?_
        obtain⟨x18,hx18,h⟩:=Ag h
        refine Ab (Bw 7 (Aj.cons (Tw (Hc hx18) Ax) (Cx (g:=147) (caps:=[]) (v:= .tup []) (ins:=[]) rfl (by kernel_rfl) (by kernel_rfl) (by kernel_rfl) Hw (by kernel_rfl) (by kernel_rfl)) ((.nil _)))) ?_
        refine Ab Aw ?_
        refine W.ops Aw ?_
        cases h
        exact Ow
       ·replace h:=h'
        cases h
        exact Bp ((Bh B6 (D3 (by(show _=_);kernel_rfl))))
     ·obtain⟨a19,row20⟩:=j14
      refine Ae ?_
      refine An hsj14 ?_
      refine Ab Aw ?_
      refine Ae ?_
      refine Ab Aw ?_
      obtain⟨j21,hj21,h⟩:=Ag h
      refine W.join (j:=j21) (fun p σ=>σ.tidy [] [(0,false),(1,false),(2,false),(6,false)] [(.ext 0,false)] [] []=⟨[(0,.own (.ext 0)),(1,Vi n1),(2,.pv (.fn 103)),(6,Vi blockSize12)],[(.ext 0,.row 9 (List.map Aa.pv p))]⟩) ?_ (fun σj21 hsj21=>?_)
      ·replace h:=hj21
       refine De (t:=decide ((IntKind.wrap .i64 (a19+blockSize12))<n1)) (by kernel_rfl) h (fun hc h'=>?_) (fun hc h'=>?_)
       ·replace h:=h'
        obtain⟨x22,hx22,h⟩:=Ag h
        refine W.ops (Bw 5 (Aj.cons (Tw (Hc hx22) Ax) (Cx (g:=147) (caps:=[]) (v:= .tup []) (ins:=[]) rfl (by kernel_rfl) (by kernel_rfl) (by kernel_rfl) Hw (by kernel_rfl) (by kernel_rfl)) ((.nil _)))) ?_
        cases h
        exact Jw
       ·replace h:=h'
        cases h
        exact W.skip Jw
      ·refine W.keep hsj21 ?_
       refine W.ops Aw ?_
       cases h
       exact Ow
    ·replace h:=h'
     refine An rfl ?_
     cases h
     exact Bp ((Bh B6 (D3 (by(show _=_);kernel_rfl))))
  ·obtain⟨rfl,hs⟩:=hp
   subst hs
   cases h
   exact(Mk (by kernel_rfl))
def Bip:List GOp:=[m0 4 0,m0 5 0,e0 6 5,m0 7 1,o0 8 (.call 0 2 (.cst (.fn 133)) [(.tmp 4),(.tmp 6),(.tmp 7)] [] [.ext 0])]
def Q8b:AC:=(.ops Bip)
def Q8:Fd:=⟨2,[],[],Q8b⟩
theorem Bb8:Bl Tryz.prog Tryz.f102 Q8=true:=by kernel_rfl
theorem Jc{l1:List Aa}{r:List Aa}(h:C9 l1=some r):A3 Tryz.prog 102 [.own (.ext 0),.pv (.fn 103)] [.row 9 (List.map Aa.pv l1)] ⟨.tup [],[],[(some (.row 9 (List.map Aa.pv r)))]⟩:=by
 refine Ap hm Tryz.func102 Bb8 (by kernel_rfl) ?_
 unfold C9 at h
 obtain⟨x2,hx2,h⟩:=Ag h
 refine W.ops (Bw 2 (Aj.dyn (Lw Aa.pv l1) (Bw 1 (Aj.cons (Tw (Lk hx2) Ax) (Cx (g:=133) (caps:=[]) (v:= .tup []) (ins:=[]) rfl (by kernel_rfl) (by kernel_rfl) (by kernel_rfl) Hw (by kernel_rfl) (by kernel_rfl)) ((.nil _)))))) ?_
 cases h
 exact(Mk (by kernel_rfl))
def An2:List GOp:=[o0 10 (.mov .nils),k0 11 0]
def An3:List GOp:=[m0 19 0,o0 20 (.call 0 0 (.cst (.fn 35)) [(.tmp 19)] [] []),m0 12 20]
def An4:List GOp:=[m0 21 12,q0 22 .neq 21 0]
def An5:List GOp:=[m0 23 12,o0 10 (.mov .nils),m0 11 23]
def An6:List GOp:=[m0 24 0,m0 25 1,m0 26 2,m0 27 3,o0 28 (.call 1 0 (.cst (.fn 101)) [(.tmp 24),(.tmp 25),(.tmp 26),(.tmp 27)] [] []),o0 29 (.call 1 0 (.cst (.fn 100)) [(.tmp 28)] [] []),m0 13 29]
def An7:List GOp:=[m0 30 13,o0 31 (.call 0 2 (.cst (.fn 102)) [(.tmp 30),(.cst (.fn 103))] [] [.loc 29 0])]
def An8:List GOp:=[m0 32 4,o0 33 (.mm true (.tmp 32) [(.cst (.int .i64 0))]),m0 14 33]
def An9:List GOp:=[o0 15 (.mov .nils)]
def Aoa:List GOp:=[m0 34 13,e0 35 34,k0 36 0]
def Aob:List GOp:=[p0 37 .lss 36 35]
def Aj9:List GOp:=[i0 38 9 34 36,t0 39 9 38,o0 17 (.alloc [.pv (.int .i64 0),.pv (.int .i64 0),.pv (.int .i64 0),.pv (.int .i64 0),.pv (.int .i64 0),.pv (.int .i32 0),.pv (.int .i32 0),.pv (.int .i64 0),.pv (.bool false)]),s0 9 17 39]
def Aka:List GOp:=[m0 40 14,t0 41 9 17,m0 42 3,o0 43 (.call 0 0 (.cst (.fn 27)) [(.tmp 41),(.tmp 42)] [] []),o0 44 (.mm false (.tmp 40) [(.tmp 43)]),m0 18 44]
def Akb:List GOp:=[m0 45 14,m0 46 18,p0 47 .sub 45 46,m0 14 47]
def Akc:List GOp:=[m0 48 15,f0 49 0 17,l0 50 1 49,m0 51 18,o0 52 (.build [.pv (.int .i64 0),.pv (.int .i64 0)] [(0,1,(.tmp 50)),(1,1,(.tmp 51))]),o0 53 (.lit false 2 [(.tmp 52)]),o0 54 (.append 15 2 16 (.tmp 48) (.tmp 53)),m0 15 54]
def Akd:List GOp:=[q0 55 .add 36 1,m0 36 55]
def Aj8:AC:=(.keep [.loc 29 0] [(3,false),(14,false),(15,false),(34,true),(35,false),(36,false)] [(.loc 15 0,false)] [.loc 17 0] [.slot 15 (.loc 15 0) 2] (.seq (.ops Aob) (.seq (.cond (.tmp 37) .skip (.exit 0)) (.seq (.pass 1 (.seq (.ops Aj9) (.seq (.ops Aka) (.seq (.ops Akb) (.ops Akc))))) (.ops Akd)))))
def Ake:List GOp:=[m0 56 15,m0 10 56,k0 11 0]
def Ayo:AC:=(.seq (.ops An2) (.seq (.seq (.ops An3) (.seq (.ops An4) (.cond (.tmp 22) (.seq (.ops An5) (.keep [] [(10,true),(11,false)] [] [] [] .ret)) .skip))) (.seq (.ops An6) (.seq (.ops An7) (.seq (.ops An8) (.seq (.ops An9) (.seq (.seq (.ops Aoa) (.block 0 (.loop [3,14,15,34,35,36] [] Aj8))) (.seq (.keep [.loc 15 0] [(15,true)] [] [.loc 29 0] [] (.ops Ake)) (.keep [] [(10,true),(11,false)] [] [] [] .ret)))))))))
def Beu:Fd:=⟨5,[.tmp 10,.tmp 11],[],Ayo⟩
theorem Aj7:Bl Tryz.prog Tryz.f52 Beu=true:=by kernel_rfl
theorem Yd{l1:List Aa}{acc2:Int}{cur3:Int}{now4:Int}{funds5:Int}{r:(List Aq)×Int}(h:Ki l1 acc2 cur3 now4 funds5=some r):A3 Tryz.prog 52 [Vl Aa.pv l1,Vi acc2,Vi cur3,.pv (.int .i32 now4),Vi funds5] [] ⟨.tup [Vl Aq.pv r.1,Vi r.2],[],[]⟩:=by
 refine Ap hm Tryz.func52 Aj7 (by kernel_rfl) ?_
 unfold Ki at h
 refine Ab Aw ?_
 refine Ae ?_
 obtain⟨x6,hx6,h⟩:=Ag h
 refine Ab (Bw 1 (Aj.cons (Tw (Hv hx6) Ax) (Kw 35 [] (Vi x6) Hw) Aw)) ?_
 refine Ae ?_
 refine Ab Aw ?_
 refine Ar (t:=(x6 !=0)) (by kernel_rfl) h (fun hc h'=>?_) (fun hc h'=>?_)
 ·replace h:=h'
  refine Ae ?_
  refine Ab Aw ?_
  refine An rfl ?_
  cases h
  exact A8 Fw
 ·replace h:=h'
  refine Ay ?_
  obtain⟨x7,hx7,h⟩:=Ag h
  refine Ab (Bw 4 (Aj.cons (Tw (Xw (l:=(List.map Aa.pv l1)) (acc:=acc2) (cur:=cur3) (now:=now4)) Ax) (N6 (g:=101) (caps:=[]) (v:= .fn 132 [.ipv (.agg [.slice (List.map Aa.pv l1)]) 0,.ipv (.agg [.int .i64 acc2]) 0,.ipv (.agg [.int .i64 cur3]) 0,.ipv (.agg [.int .i32 now4]) 0]) (ins:=[]) (by kernel_rfl) (by kernel_rfl) (by kernel_rfl) Hw (by kernel_rfl)) (Aj.cons (Tw (Vs hx7) Ax) (N6 (g:=100) (caps:=[]) (v:= .own (.loc 29 0)) (ins:=[(.loc 29 0,.row 9 (List.map Aa.pv x7))]) (by kernel_rfl) (by kernel_rfl) (by kernel_rfl) Hw (by kernel_rfl)) Aw))) ?_
  obtain⟨x8,hx8,h⟩:=Ag h
  refine Ab (Bw 1 (Aj.cons (Tw (Jc hx8) Ax) (Cx (g:=102) (caps:=[]) (v:= .tup []) (ins:=[]) rfl (by kernel_rfl) (by kernel_rfl) (by kernel_rfl) Hw (by kernel_rfl) (by kernel_rfl)) ((.nil _)))) ?_
  refine Ab Aw ?_
  refine Ab Aw ?_
  refine Ae ?_
  refine Ab (Bw 1 (Aj.dyn (Lw Aa.pv x8) Aw)) ?_
  obtain⟨j9,hj9,h⟩:=Ag h
  refine W.join (j:=j9) (fun p σ=>σ.tidy [.loc 15 0] [(15,true)] [] [.loc 29 0] []=⟨[(15,Vl Aq.pv p)],[]⟩) ?_ (fun σj9 hsj9=>?_)
  ·refine Ch (fun q σ=>((σ.forget [3,14,15,34,35,36]).killAll []).tidy [.loc 29 0] [(3,false),(14,false),(15,false),(34,true),(35,false),(36,false)] [(.loc 15 0,false)] [.loc 17 0] [.slot 15 (.loc 15 0) 2]=⟨[(3,.pv (.int .i32 now4)),(14,Vi q.1),(15,.own (.loc 15 0)),(34,Vl Aa.pv q.2.1),(35,Vi (x8.length:Int)),(36,Vi q.2.2.1)],[(.loc 15 0,.row 2 (List.map Aq.pv q.2.2.2))]⟩) hj9 ?_ ?_
   ·show _=_
    kernel_rfl
   ·intro q σj9 oj9 hJj9 h
    obtain⟨left10,x11,x12,row13⟩:=q
    refine W.keep hJj9 ?_
    refine Ab Aw ?_
    refine Ar (t:=decide (x12<(x8.length:Int))) (by kernel_rfl) h (fun hc h'=>?_) (fun hc h'=>?_)
    ·replace h:=h'
     refine Ay ?_
     refine Bs ?_
     refine Ae ?_
     obtain⟨x14,hx14,h⟩:=Ag h
     refine Ab (Aj.dyn (Iw Aa.pv x11 x12 x14 hx14) Aw) ?_
     refine Ae ?_
     obtain⟨x15,hx15,h⟩:=Ag h
     refine Ab (Bw 3 (Aj.cons (Tw (Oo hx15) Ax) (Kw 27 [] (Vi x15) Hw) Aw)) ?_
     refine Ae ?_
     refine Ab Aw ?_
     obtain⟨x16,hx16,h⟩:=Ag h
     refine Ab (Bw 6 (Aj.dyn (C5 (k:= .loc 15 0) (f:=Aq.pv) (l:=row13) (m:=[(⟨x14.Bc,(if x15<left10 then x15 else left10)⟩:Aq)]) (by kernel_rfl) (by kernel_rfl) (by kernel_rfl) hx16 (fun _=>rfl) (by kernel_rfl)) Aw)) ?_
     refine W.ops Aw ?_
     cases h
     exact Ow
    ·replace h:=h'
     cases h
     exact Bp ((Bh B6 (D3 (by(show _=_);kernel_rfl))))
  ·refine An hsj9 ?_
   refine Ab Aw ?_
   refine W.keep rfl ?_
   cases h
   exact W.ret Fw
def Bcb:List GOp:=[o0 2 (.box (.tmp 0)),b0 3 false]
def Bcc:List GOp:=[f0 4 0 2,l0 5 1 4,l0 6 1 1,p0 7 .eql 5 6,m0 3 7]
def Bir:AC:=(.seq (.ops Bcb) (.seq (.ops Bcc) (.keep [] [(3,false)] [] [.loc 2 0] [] .ret)))
def Q91:Fd:=⟨2,[.tmp 3],[],Bir⟩
theorem Awm:Bl Tryz.prog Tryz.f54 Q91=true:=by kernel_rfl
theorem Vk{c1:Aq}{x2:Int}{r:Bool}(h:Lo c1 x2=some r):A3 Tryz.prog 54 [.pv (Aq.pv c1),.ipv (.agg [.int .i64 x2]) 0] [] ⟨Vb r,[],[]⟩:=by
 refine Ap hm Tryz.func54 Awm (by kernel_rfl) ?_
 unfold Lo at h
 refine Ab Aw ?_
 refine Ab Aw ?_
 refine W.keep rfl ?_
 cases h
 exact W.ret Fw
def Bh7:List GOp:=[k0 4 0]
def Bh8:List GOp:=[m0 6 0,e0 7 6,k0 8 0]
def Bh9:List GOp:=[p0 9 .lss 8 7]
def Bia:List GOp:=[m0 10 8,m0 5 10]
def Bib:List GOp:=[m0 11 1,m0 12 0,m0 13 5,i0 14 2 12 13,t0 15 2 14,o0 16 (.call 0 0 (.tmp 11) [(.tmp 15)] [] [])]
def Bic:List GOp:=[m0 17 5,m0 4 17]
def Bid:List GOp:=[q0 18 .add 8 1,m0 8 18]
def Bh6:AC:=(.keep [] [(0,false),(1,false),(7,false),(8,false)] [] [] [] (.seq (.ops Bh9) (.seq (.cond (.tmp 9) .skip (.exit 0)) (.seq (.pass 1 (.seq (.ops Bia) (.seq (.ops Bib) (.cond (.tmp 16) (.seq (.ops Bic) (.keep [] [(4,false)] [] [] [] .ret)) .skip)))) (.ops Bid)))))
def Bie:List GOp:=[k0 4 (-1)]
def Q7b:AC:=(.seq (.ops Bh7) (.seq (.seq (.ops Bh8) (.block 0 (.loop [0,1,7,8] [] Bh6))) (.seq (.keep [] [] [] [] [] (.ops Bie)) (.keep [] [(4,false)] [] [] [] .ret))))
def Q7:Fd:=⟨2,[.tmp 4],[],Q7b⟩
theorem Ba6:Bl Tryz.prog Tryz.f53 Q7=true:=by kernel_rfl
theorem I3{s1:List Aq}{c2:Int}{r:Int}(h:C7 s1 c2=some r):A3 Tryz.prog 53 [Vl Aq.pv s1,.fn 54 [.ipv (.agg [.int .i64 c2]) 0]] [] ⟨Vi r,[],[]⟩:=by
 refine Ap hm Tryz.func53 Ba6 (by kernel_rfl) ?_
 unfold C7 at h
 refine Ab Aw ?_
 refine Ae ?_
 refine Ab (Bw 1 (Aj.dyn (Lw Aq.pv s1) Aw)) ?_
 obtain⟨j3,hj3,h⟩:=Ag h
 refine Ck (j:=j3) (o:=r) (fun p σ=>σ.tidy [] [] [] [] []=⟨[],[]⟩) ?_ (fun p σj3 hp hsj3=>?_) (fun p hp=>?_)
 ·refine B1 (fun q σ=>((σ.forget [0,1,7,8]).killAll []).tidy [] [(0,false),(1,false),(7,false),(8,false)] [] [] []=⟨[(0,Vl Aq.pv s1),(1,.fn 54 [.ipv (.agg [.int .i64 c2]) 0]),(7,Vi (s1.length:Int)),(8,Vi q)],[]⟩) hj3 ?_ ?_
  ·show _=_
   kernel_rfl
  ·intro x4 σj3 oj3 hJj3 h
   refine W.keep hJj3 ?_
   refine Ab Aw ?_
   refine Ar (t:=decide (x4<(s1.length:Int))) (by kernel_rfl) h (fun hc h'=>?_) (fun hc h'=>?_)
   ·replace h:=h'
    refine Ay ?_
    refine Bs ?_
    refine Ae ?_
    refine Ab Aw ?_
    refine Ae ?_
    obtain⟨x5,hx5,h⟩:=Ag h
    obtain⟨x6,hx6,h⟩:=Ag h
    refine Ab (Bw 3 (Aj.dyn (Iw Aq.pv s1 x4 x5 hx5) (Bw 1 (Aj.cons (Tw (Vk hx6) Ax) (Kw 54 [.ipv (.agg [.int .i64 c2]) 0] (Vb x6) Hw) ((.nil _)))))) ?_
    refine Ar (t:=x6) (by kernel_rfl) h (fun hc h'=>?_) (fun hc h'=>?_)
    ·replace h:=h'
     refine Ae ?_
     refine Ab Aw ?_
     refine An rfl ?_
     cases h
     exact A8 ((Bh Cd (Ed Cd Dh (fun e=>by subst e;exact Fw))))
    ·replace h:=h'
     refine Ay ?_
     refine W.ops Aw ?_
     cases h
     exact Ow
   ·replace h:=h'
    cases h
    exact Bp ((Bh B6 (Eh (by(show _=_);kernel_rfl))))
 ·subst hp
  obtain⟨⟩:=p
  refine An hsj3 ?_
  refine Ab Aw ?_
  refine W.keep rfl ?_
  cases h
  exact W.ret Fw
 ·subst hp
  exact Option.some.inj h
def Aoc:List GOp:=[o0 5 (.box (.tmp 0)),o0 6 (.box (.tmp 1)),o0 7 (.box (.tmp 2)),o0 10 (.alloc [.nils,.nils,.nils,.nils,.nils]),b0 11 false,k0 12 0]
def Aod:List GOp:=[t0 21 5 5,o0 22 (.call 0 0 (.cst (.fn 11)) [(.tmp 21)] [] []),o0 23 (.un .not (.tmp 22))]
def Aoe:List GOp:=[o0 24 (.build [.nils,.nils,.nils,.nils,.nils] []),s0 5 10 24,b0 11 false,k0 12 1]
def Aof:List GOp:=[f0 26 3 5,l0 27 1 26,l0 28 1 6,t0 29 2 7,m0 30 3,m0 31 4,o0 32 (.call 0 0 (.cst (.fn 49)) [(.tmp 27),(.tmp 28),(.tmp 29),(.tmp 30),(.tmp 31)] [] []),m0 25 32,o0 33 (.ext 0 (.tmp 25)),o0 34 (.ext 1 (.tmp 25)),m0 13 33,m0 14 34]
def Aog:List GOp:=[m0 35 14,q0 36 .neq 35 0]
def Aoh:List GOp:=[o0 37 (.build [.nils,.nils,.nils,.nils,.nils] []),m0 38 14,s0 5 10 37,b0 11 false,m0 12 38]
def Aoi:List GOp:=[f0 39 3 5,l0 40 1 39,f0 41 3 5,l0 42 1 41,o0 43 (.mkfn 51 [(.tmp 6)]),o0 44 (.call 0 0 (.cst (.fn 50)) [(.tmp 42),(.tmp 43)] [] []),i0 45 9 40 44,t0 46 9 45,o0 15 (.alloc [.pv (.int .i64 0),.pv (.int .i64 0),.pv (.int .i64 0),.pv (.int .i64 0),.pv (.int .i64 0),.pv (.int .i32 0),.pv (.int .i32 0),.pv (.int .i64 0),.pv (.bool false)]),s0 9 15 46]
def Aoj:List GOp:=[t0 48 5 5,f0 49 1 15,l0 50 1 49,m0 51 3,o0 52 (.call 0 0 (.cst (.fn 28)) [(.tmp 48),(.tmp 50),(.tmp 51)] [] []),m0 47 52,o0 53 (.ext 0 (.tmp 47)),o0 54 (.ext 1 (.tmp 47)),o0 16 (.alloc [.pv (.int .i64 0),.pv (.int .i64 0),.pv (.int .i64 0)]),s0 3 16 53,m0 17 54]
def Aok:List GOp:=[m0 56 17,o0 57 (.isNil true (.tmp 56)),m0 55 57]
def Aol:List GOp:=[o0 58 (.build [.nils,.nils,.nils,.nils,.nils] []),m0 59 17,o0 60 (.call 0 0 (.cst (.fn 29)) [(.tmp 59)] [] []),s0 5 10 58,b0 11 false,m0 12 60]
def Akg:List GOp:=[f0 62 2 15,f0 63 0 62,l0 64 1 63,f0 65 0 16,l0 66 1 65,p0 67 .neq 64 66,m0 61 67]
def Akh:List GOp:=[o0 68 (.build [.nils,.nils,.nils,.nils,.nils] []),s0 5 10 68,b0 11 false,k0 12 12]
def Aki:List GOp:=[f0 70 3 5,l0 71 1 70,f0 72 1 15,l0 73 1 72,f0 74 0 16,l0 75 1 74,m0 76 3,f0 77 1 16,l0 78 1 77,f0 79 2 16,l0 80 1 79,p0 81 .add 78 80,o0 82 (.call 0 0 (.cst (.fn 52)) [(.tmp 71),(.tmp 73),(.tmp 75),(.tmp 76),(.tmp 81)] [] []),m0 69 82,o0 83 (.ext 0 (.tmp 69)),o0 84 (.ext 1 (.tmp 69)),m0 18 83,m0 19 84]
def Akj:List GOp:=[m0 85 18,o0 86 (.mkfn 54 [(.tmp 6)]),o0 87 (.call 0 0 (.cst (.fn 53)) [(.tmp 85),(.tmp 86)] [] []),m0 20 87]
def Akk:List GOp:=[m0 88 20,q0 89 .lss 88 0,m0 90 89,g0 91 90 false (.mov (.tmp 18)),g0 92 90 false (.mov (.tmp 20)),g0 93 90 false (.idx 2 (.tmp 91) (.tmp 92)),g0 94 90 false (.fld 1 (.tmp 93)),g0 95 90 false (.load false 1 (.tmp 94)),g0 96 90 false (.fld 1 (.tmp 7)),g0 97 90 false (.load false 1 (.tmp 96)),g0 98 90 false (.bin false .lss (.tmp 95) (.tmp 97)),o0 99 (.pick (.tmp 90) (.cst (.bool true)) (.tmp 98))]
def Akl:List GOp:=[t0 100 5 5,f0 101 3 5,l0 102 1 101,o0 103 (.call 0 0 (.cst (.fn 48)) [(.tmp 100),(.tmp 102)] [] []),s0 5 10 103,b0 11 false,k0 12 0]
def Akm:List GOp:=[t0 104 5 5,m0 105 13,o0 106 (.call 0 0 (.cst (.fn 48)) [(.tmp 104),(.tmp 105)] [] []),s0 5 10 106,b0 11 true,k0 12 0]
def Ayp:AC:=(.seq (.ops Aoc) (.seq (.seq (.ops Aod) (.cond (.tmp 23) (.seq (.ops Aoe) (.keep [] [(10,false),(11,false),(12,false)] [(.loc 10 0,true)] [.loc 15 0,.loc 16 0,.loc 5 0,.loc 6 0,.loc 7 0] [] .ret)) .skip)) (.seq (.ops Aof) (.seq (.seq (.ops Aog) (.cond (.tmp 36) (.seq (.ops Aoh) (.keep [] [(10,false),(11,false),(12,false)] [(.loc 10 0,true)] [.loc 15 0,.loc 16 0,.loc 5 0,.loc 6 0,.loc 7 0] [] .ret)) .skip)) (.seq (.keep [.loc 6 0] [(3,false),(5,false),(6,false),(7,false),(10,false),(13,false)] [(.loc 5 0,false),(.loc 7 0,false),(.loc 10 0,false)] [] [] (.draw [.loc 15 0] Aoi)) (.seq (.ops Aoj) (.seq (.pass 0 (.seq (.ops Aok) (.cond (.tmp 55) (.seq (.ops Aol) (.keep [] [(10,false),(11,false),(12,false)] [(.loc 10 0,true)] [.loc 15 0,.loc 16 0,.loc 5 0,.loc 6 0,.loc 7 0] [] .ret)) (.seq (.ops Akg) (.cond (.tmp 61) (.seq (.ops Akh) (.keep [] [(10,false),(11,false),(12,false)] [(.loc 10 0,true)] [.loc 15 0,.loc 16 0,.loc 5 0,.loc 6 0,.loc 7 0] [] .ret)) .skip))))) (.seq (.ops Aki) (.seq (.ops Akj) (.seq (.seq (.draw [] Akk) (.cond (.tmp 99) (.seq (.ops Akl) (.keep [] [(10,false),(11,false),(12,false)] [(.loc 10 0,true)] [.loc 15 0,.loc 16 0,.loc 5 0,.loc 6 0,.loc 7 0] [] .ret)) .skip)) (.seq (.ops Akm) (.keep [] [(10,false),(11,false),(12,false)] [(.loc 10 0,true)] [.loc 15 0,.loc 16 0,.loc 5 0,.loc 6 0,.loc 7 0] [] .ret))))))))))))
def Bev:Fd:=⟨5,[.cell 10 true 5,.tmp 11,.tmp 12],[],Ayp⟩
theorem Akf:Bl Tryz.prog Tryz.f20 Bev=true:=by kernel_rfl
theorem X8{t1:Ah}{id2:Int}{amount3:A5}{now4:Int}{last5:Bool}{r:Ah×Bool×Int}(h:F6 t1 id2 amount3 now4 last5=some r):A3 Tryz.prog 20 [.pv (Ah.pv t1),Vi id2,.pv (A5.pv amount3),.pv (.int .i32 now4),Vb last5] [] ⟨.tup [.pv (Ah.pv r.1),Vb r.2.1,Vi r.2.2],[],[]⟩:=by
 refine Ap hm Tryz.func20 Akf (by kernel_rfl) ?_
 unfold F6 at h
 refine Ab Aw ?_
 refine Ae ?_
 obtain⟨x6,hx6,h⟩:=Ag h
 refine Ab (Bw 1 (Aj.cons (Tw (Me hx6) Ax) (Kw 11 [] (Vb x6) Hw) Aw)) ?_
 refine Ar (t:= !x6) (by kernel_rfl) h (fun hc h'=>?_) (fun hc h'=>?_)
 ·replace h:=h'
  refine Ae ?_
  refine Ab Aw ?_
  refine An rfl ?_
  cases h
  exact A8 Fw
 ·replace h:=h'
  refine Ay ?_
  obtain⟨x7,hx7,h⟩:=Ag h
  refine Ab (Bw 6 (Aj.cons (Tw (Vq hx7) Ax) (Kw 49 [] (.tup [Vl Aa.pv x7.1,Vi x7.2]) Hw) Aw)) ?_
  refine Ae ?_
  refine Ab Aw ?_
  refine Ar (t:=(x7.2 !=0)) (by kernel_rfl) h (fun hc h'=>?_) (fun hc h'=>?_)
  ·replace h:=h'
   refine Ae ?_
   refine Ab Aw ?_
   refine An rfl ?_
   cases h
   exact A8 Fw
  ·replace h:=h'
   refine Ay ?_
   obtain⟨x8,hx8,h⟩:=Ag h
   obtain⟨x9,hx9,h⟩:=Ag h
   refine An rfl ?_
   refine Bx (Tw (J1 hx8) Ax) (Dw 5 (Run.dyn (Kw 50 [] (Vi x8) Hw) (Run.dyn (Iw Aa.pv t1.A7 x8 x9 hx9) Cw))) ?_
   obtain⟨x10,hx10,h⟩:=Ag h
   refine Ab (Bw 4 (Aj.cons (Tw (N8 hx10) Ax) (Kw 28 [] (.tup [.pv (Be.pv x10.1),.pv (Ww 113 x10.2)]) Hw) Aw)) ?_
   refine Bs ?_
   refine Ae ?_
   refine Ab (Bw 1 (Aj.dyn (K0 (t:=113) (e:=x10.2) (by kernel_rfl)) Aw)) ?_
   refine Ar (t:=Option.isSome x10.2) (by kernel_rfl) h (fun hc h'=>?_) (fun hc h'=>?_)
   ·replace h:=h'
    refine Ae ?_
    obtain⟨x11,hx11,h⟩:=Ag h
    refine Ab (Bw 2 (Aj.cons (Tw (Mg hx11) Ax) (Kw 29 [] (Vi x11) Hw) Aw)) ?_
    refine An rfl ?_
    cases h
    exact A8 Fw
   ·replace h:=h'
    refine Ae ?_
    refine Ab Aw ?_
    refine Ar (t:=(x9.Ak.Bb !=x10.1.Rv)) (by kernel_rfl) h (fun hc h'=>?_) (fun hc h'=>?_)
    ·replace h:=h'
     refine Ae ?_
     refine Ab Aw ?_
     refine An rfl ?_
     cases h
     exact A8 Fw
    ·replace h:=h'
     refine Ay ?_
     obtain⟨x12,hx12,h⟩:=Ag h
     refine Ab (Bw 12 (Aj.cons (Tw (Yd hx12) Ax) (Kw 52 [] (.tup [Vl Aq.pv x12.1,Vi x12.2]) Hw) Aw)) ?_
     obtain⟨x13,hx13,h⟩:=Ag h
     refine Ab (Bw 2 (Aj.cons (Tw (I3 hx13) Ax) (Kw 53 [] (Vi x13) Hw) Aw)) ?_
     refine Ae ?_
     obtain⟨c14,hc14,h⟩:=Ag h
     obtain⟨x15,hx15,h⟩:=Ag h
     refine Bx Ax (Dw 2 (Run.dyn (Nw (decide (x13<0)) c14 hc14) (Run.puts 2 [(92,(Bf (!c14) (Vi x13))),(91,(Bf (!c14) (Vl Aq.pv x12.1)))] (by cases c14<;>kernel_rfl) (Run.dyn (Bn (!c14) (by kernel_rfl) (by
        cases c14
        ·exact .inr ⟨by kernel_rfl,by kernel_rfl,Iw Aq.pv x12.1 x13 x15 hx15⟩
        ·exact .inl ⟨by kernel_rfl,by kernel_rfl⟩)) (Run.puts 6 [(99,Vb (c14||(decide (x15.Kg<amount3.Ao)))),(98,(Bf (!c14) (Vb (decide (x15.Kg<amount3.Ao))))),(97,(Bf (!c14) (Vi amount3.Ao))),(96,(Bf (!c14) (.ptr (.loc 7 0) 1))),(95,(Bf (!c14) (Vi x15.Kg))),(94,(Bf (!c14) (.ipv (Aq.pv x15) 1)))] (by cases c14<;>kernel_rfl) ((Run.nil))))))) ?_
     refine Ar (t:=(c14||(decide (x15.Kg<amount3.Ao)))) (by kernel_rfl) h (fun hc h'=>?_) (fun hc h'=>?_)
     ·replace h:=h'
      refine Ae ?_
      obtain⟨x16,hx16,h⟩:=Ag h
      refine Ab (Bw 3 (Aj.cons (Tw (Kt hx16) Ax) (Kw 48 [] (.pv (Ah.pv x16)) Hw) Aw)) ?_
      refine An rfl ?_
      cases h
      exact A8 Fw
     ·replace h:=h'
      refine Ay ?_
      obtain⟨x17,hx17,h⟩:=Ag h
      refine Ab (Bw 2 (Aj.cons (Tw (Kt hx17) Ax) (Kw 48 [] (.pv (Ah.pv x17)) Hw) Aw)) ?_
      refine W.keep rfl ?_
      cases h
      exact W.ret Fw
def A1y:List GOp:=[o0 1 (.box (.tmp 0)),b0 2 false]
def A1z:List GOp:=[k0 3 0]
def A10:List GOp:=[m0 4 3,f0 5 1 1,l0 6 1 5,o0 7 (.len true (.tmp 6)),p0 8 .lss 4 7]
def A11:List GOp:=[f0 11 1 1,l0 12 1 11,m0 13 3,o0 14 (.sidx (.tmp 12) (.tmp 13)),o0 15 (.bin false .lss (.tmp 14) (.cst (.int .u8 32))),m0 16 15,g0 17 16 false (.fld 1 (.tmp 1)),g0 18 16 false (.load false 1 (.tmp 17)),g0 19 16 false (.mov (.tmp 3)),g0 20 16 false (.sidx (.tmp 18) (.tmp 19)),g0 21 16 false (.bin false .gtr (.tmp 20) (.cst (.int .u8 126))),o0 22 (.pick (.tmp 16) (.cst (.bool true)) (.tmp 21))]
def A12:List GOp:=[b0 2 false]
def A13:List GOp:=[m0 9 3,q0 10 .add 9 1,m0 3 10]
def A1x:AC:=(.keep [] [(1,false),(3,false)] [(.loc 1 0,false)] [] [] (.seq (.seq (.ops A10) (.cond (.tmp 8) .skip (.exit 0))) (.seq (.pass 1 (.seq (.ops A11) (.cond (.tmp 22) (.seq (.ops A12) (.keep [] [(2,false)] [] [.loc 1 0] [] .ret)) .skip))) (.ops A13))))
def A14:List GOp:=[f0 23 0 1,l0 24 1 23,q0 25 .geq 24 1,m0 26 25,g0 27 26 true (.fld 0 (.tmp 1)),g0 28 26 true (.load false 1 (.tmp 27)),g0 29 26 true (.bin false .leq (.tmp 28) (.cst (.int .i64 999))),o0 30 (.pick (.tmp 26) (.tmp 29) (.cst (.bool false))),m0 31 30,g0 32 31 true (.fld 1 (.tmp 1)),g0 33 31 true (.load false 1 (.tmp 32)),g0 34 31 true (.len true (.tmp 33)),g0 35 31 true (.bin false .geq (.tmp 34) (.cst (.int .i64 1))),o0 36 (.pick (.tmp 31) (.tmp 35) (.cst (.bool false))),m0 37 36,g0 38 37 true (.fld 1 (.tmp 1)),g0 39 37 true (.load false 1 (.tmp 38)),g0 40 37 true (.len true (.tmp 39)),g0 41 37 true (.bin false .leq (.tmp 40) (.cst (.int .i64 32))),o0 42 (.pick (.tmp 37) (.tmp 41) (.cst (.bool false))),m0 43 42,g0 44 43 true (.fld 2 (.tmp 1)),g0 45 43 true (.load false 1 (.tmp 44)),g0 46 43 true (.bin false .geq (.tmp 45) (.cst (.int .i64 0))),o0 47 (.pick (.tmp 43) (.tmp 46) (.cst (.bool false))),m0 48 47,g0 49 48 true (.fld 2 (.tmp 1)),g0 50 48 true (.load false 1 (.tmp 49)),g0 51 48 true (.bin false .leq (.tmp 50) (.cst (.int .i64 3))),o0 52 (.pick (.tmp 48) (.tmp 51) (.cst (.bool false))),m0 2 52]
def Bft:AC:=(.seq (.ops A1y) (.seq (.seq (.ops A1z) (.block 0 (.loop [1,3] [] A1x))) (.seq (.keep [] [(1,false)] [(.loc 1 0,false)] [] [] (.ops A14)) (.keep [] [(2,false)] [] [.loc 1 0] [] .ret))))
def Q27:Fd:=⟨1,[.tmp 2],[],Bft⟩
theorem Ar7:Bl Tryz.prog Tryz.f86 Q27=true:=by kernel_rfl
theorem Mt{x1:Ac}{r:Bool}(h:Ep x1=some r):A3 Tryz.prog 86 [.pv (Ac.pv x1)] [] ⟨Vb r,[],[]⟩:=by
 refine Ap hm Tryz.func86 Ar7 (by kernel_rfl) ?_
 unfold Ep at h
 refine Ab Aw ?_
 refine Ae ?_
 refine Ab Aw ?_
 obtain⟨j2,hj2,h⟩:=Ag h
 refine Ck (j:=j2) (o:=r) (fun p σ=>σ.tidy [] [(1,false)] [(.loc 1 0,false)] [] []=⟨[(1,.ptr (.loc 1 0) 0)],[(.loc 1 0,.box [Vi x1.Bc,.pv (.str x1.Di),Vi x1.Ca])]⟩) ?_ (fun p σj2 hp hsj2=>?_) (fun p hp=>?_)
 ·refine B1 (fun q σ=>((σ.forget [1,3]).killAll []).tidy [] [(1,false),(3,false)] [(.loc 1 0,false)] [] []=⟨[(1,.ptr (.loc 1 0) 0),(3,Vi q)],[(.loc 1 0,.box [Vi x1.Bc,.pv (.str x1.Di),Vi x1.Ca])]⟩) hj2 ?_ ?_
  ·show _=_
   kernel_rfl
  ·intro i3 σj2 oj2 hJj2 h
   refine W.keep hJj2 ?_
   refine Ae ?_
   refine Ab Aw ?_
   refine Ar (t:=decide (i3<(x1.Di.length:Int))) (by kernel_rfl) h (fun hc h'=>?_) (fun hc h'=>?_)
   ·replace h:=h'
    refine Ay ?_
    refine Bs ?_
    refine Ae ?_
    obtain⟨x4,hx4,h⟩:=Ag h
    obtain⟨c5,hc5,h⟩:=Ag h
    obtain⟨x6,hx6,h⟩:=Ag h
    refine Ab (Bw 3 (Aj.dyn (Step.sidx (s:=x1.Di) (n:=i3) (m:=x4) (k:= .i64) (by kernel_rfl) (by kernel_rfl) hx4) (Bw 1 (Aj.dyn (Nw (decide (x4<32)) c5 hc5) (Aj.puts 3 [(19,(Bf (!c5) (Vi i3))),(18,(Bf (!c5) (.pv (.str x1.Di)))),(17,(Bf (!c5) (.ptr (.loc 1 0) 1)))] (by cases c5<;>kernel_rfl) (Aj.dyn (Bn (!c5) (by kernel_rfl) (by
       cases c5
       ·exact .inr ⟨by kernel_rfl,by kernel_rfl,Step.sidx (s:=x1.Di) (n:=i3) (m:=x6) (k:= .i64) (by kernel_rfl) (by kernel_rfl) hx6⟩
       ·exact .inl ⟨by kernel_rfl,by kernel_rfl⟩)) (Aj.puts 2 [(22,Vb (c5||(decide (x6>126)))),(21,(Bf (!c5) (Vb (decide (x6>126)))))] (by cases c5<;>kernel_rfl) ((.nil _))))))))) ?_
    refine Ar (t:=(c5||(decide (x6>126)))) (by kernel_rfl) h (fun hc h'=>?_) (fun hc h'=>?_)
    ·replace h:=h'
     refine Ae ?_
     refine Ab Aw ?_
     refine An rfl ?_
     cases h
     exact A8 ((Bh Cd (Ed Cd Dh (fun e=>by subst e;exact Fw))))
    ·replace h:=h'
     refine Ay ?_
     refine W.ops Aw ?_
     cases h
     exact Ow
   ·replace h:=h'
    cases h
    exact Bp ((Bh B6 (Eh (by(show _=_);kernel_rfl))))
 ·subst hp
  obtain⟨⟩:=p
  refine An hsj2 ?_
  obtain⟨c7,hc7,h⟩:=Ag h
  obtain⟨c8,hc8,h⟩:=Ag h
  obtain⟨c9,hc9,h⟩:=Ag h
  obtain⟨c10,hc10,h⟩:=Ag h
  obtain⟨c11,hc11,h⟩:=Ag h
  refine Ab (Bw 3 (Aj.dyn (Nw (decide (x1.Bc≥1)) c7 hc7) (Aj.puts 4 [(30,Vb (c7&&(decide (x1.Bc≤999)))),(29,(Bf c7 (Vb (decide (x1.Bc≤999))))),(28,(Bf c7 (Vi x1.Bc))),(27,(Bf c7 (.ptr (.loc 1 0) 0)))] (by cases c7<;>kernel_rfl) (Aj.dyn (Nw (c7&&(decide (x1.Bc≤999))) c8 hc8) (Aj.puts 5 [(36,Vb (c8&&(decide ((x1.Di.length:Int)≥1)))),(35,(Bf c8 (Vb (decide ((x1.Di.length:Int)≥1))))),(34,(Bf c8 (Vi (x1.Di.length:Int)))),(33,(Bf c8 (.pv (.str x1.Di)))),(32,(Bf c8 (.ptr (.loc 1 0) 1)))] (by cases c8<;>kernel_rfl) (Aj.dyn (Nw (c8&&(decide ((x1.Di.length:Int)≥1))) c9 hc9) (Aj.puts 5 [(42,Vb (c9&&(decide ((x1.Di.length:Int)≤32)))),(41,(Bf c9 (Vb (decide ((x1.Di.length:Int)≤32))))),(40,(Bf c9 (Vi (x1.Di.length:Int)))),(39,(Bf c9 (.pv (.str x1.Di)))),(38,(Bf c9 (.ptr (.loc 1 0) 1)))] (by cases c9<;>kernel_rfl) (Aj.dyn (Nw (c9&&(decide ((x1.Di.length:Int)≤32))) c10 hc10) (Aj.puts 4 [(47,Vb (c10&&(decide (x1.Ca≥0)))),(46,(Bf c10 (Vb (decide (x1.Ca≥0))))),(45,(Bf c10 (Vi x1.Ca))),(44,(Bf c10 (.ptr (.loc 1 0) 2)))] (by cases c10<;>kernel_rfl) (Aj.dyn (Nw (c10&&(decide (x1.Ca≥0))) c11 hc11) (Aj.puts 4 [(52,Vb (c11&&(decide (x1.Ca≤3)))),(51,(Bf c11 (Vb (decide (x1.Ca≤3))))),(50,(Bf c11 (Vi x1.Ca))),(49,(Bf c11 (.ptr (.loc 1 0) 2)))] (by cases c11<;>kernel_rfl) Aw))))))))))) ?_
  refine W.keep rfl ?_
  cases h
  exact W.ret Fw
 ·subst hp
  exact Option.some.inj h
def A3l:List GOp:=[b0 2 false]
def A3m:List GOp:=[m0 3 0,o0 4 (.bin false .geq (.tmp 3) (.cst (.int .i32 (-50000)))),m0 5 4,g0 6 5 true (.mov (.tmp 0)),g0 7 5 true (.bin false .leq (.tmp 6) (.cst (.int .i32 50000))),o0 8 (.pick (.tmp 5) (.tmp 7) (.cst (.bool false))),m0 2 8]
def Bf2:AC:=(.seq (.ops A3l) (.seq (.ops A3m) (.keep [] [(2,false)] [] [] [] .ret)))
def Q34:Fd:=⟨1,[.tmp 2],[],Bf2⟩
theorem Asr:Bl Tryz.prog Tryz.f41 Q34=true:=by kernel_rfl
theorem Eo{d1:Int}{r:Bool}(h:C2 d1=some r):A3 Tryz.prog 41 [.pv (.int .i32 d1)] [] ⟨Vb r,[],[]⟩:=by
 refine Ap hm Tryz.func41 Asr (by kernel_rfl) ?_
 unfold C2 at h
 refine Ab Aw ?_
 obtain⟨c2,hc2,h⟩:=Ag h
 refine Ab (Bw 2 (Aj.dyn (Nw (decide (d1≥(-50000))) c2 hc2) (Aj.puts 3 [(8,Vb (c2&&(decide (d1≤50000)))),(7,(Bf c2 (Vb (decide (d1≤50000))))),(6,(Bf c2 (.pv (.int .i32 d1))))] (by cases c2<;>kernel_rfl) Aw))) ?_
 refine W.keep rfl ?_
 cases h
 exact W.ret Fw
def A2y:List GOp:=[o0 1 (.box (.tmp 0)),b0 2 false]
def A2z:List GOp:=[f0 3 0 1,l0 4 1 3,q0 5 .lss 4 1,m0 6 5,g0 7 6 false (.fld 0 (.tmp 1)),g0 8 6 false (.load false 1 (.tmp 7)),g0 9 6 false (.bin false .gtr (.tmp 8) (.cst (.int .i64 999))),o0 10 (.pick (.tmp 6) (.cst (.bool true)) (.tmp 9)),m0 11 10,g0 12 11 false (.fld 1 (.tmp 1)),g0 13 11 false (.load false 1 (.tmp 12)),g0 14 11 false (.bin false .lss (.tmp 13) (.cst (.int .i64 0))),o0 15 (.pick (.tmp 11) (.cst (.bool true)) (.tmp 14)),m0 16 15,g0 17 16 false (.fld 1 (.tmp 1)),g0 18 16 false (.load false 1 (.tmp 17)),g0 19 16 false (.bin false .gtr (.tmp 18) (.cst (.int .i64 3))),o0 20 (.pick (.tmp 16) (.cst (.bool true)) (.tmp 19)),m0 21 20,g0 22 21 false (.fld 2 (.tmp 1)),g0 23 21 false (.load false 1 (.tmp 22)),g0 24 21 false (.bin false .lss (.tmp 23) (.cst (.int .i64 0))),o0 25 (.pick (.tmp 21) (.cst (.bool true)) (.tmp 24)),m0 26 25,g0 27 26 false (.fld 2 (.tmp 1)),g0 28 26 false (.load false 1 (.tmp 27)),g0 29 26 false (.bin false .gtr (.tmp 28) (.cst (.int .i64 3))),o0 30 (.pick (.tmp 26) (.cst (.bool true)) (.tmp 29)),m0 31 30,g0 32 31 false (.fld 3 (.tmp 1)),g0 33 31 false (.load false 1 (.tmp 32)),g0 34 31 false (.bin false .lss (.tmp 33) (.cst (.int .i64 0))),o0 35 (.pick (.tmp 31) (.cst (.bool true)) (.tmp 34)),m0 36 35,g0 37 36 false (.fld 3 (.tmp 1)),g0 38 36 false (.load false 1 (.tmp 37)),g0 39 36 false (.bin false .gtr (.tmp 38) (.cst (.int .i64 999))),o0 40 (.pick (.tmp 36) (.cst (.bool true)) (.tmp 39)),m0 41 40,g0 42 41 false (.fld 4 (.tmp 1)),g0 43 41 false (.load false 1 (.tmp 42)),g0 44 41 false (.bin false .lss (.tmp 43) (.cst (.int .i64 0))),o0 45 (.pick (.tmp 41) (.cst (.bool true)) (.tmp 44)),m0 46 45,g0 47 46 false (.fld 4 (.tmp 1)),g0 48 46 false (.load false 1 (.tmp 47)),g0 49 46 false (.bin false .gtr (.tmp 48) (.cst (.int .i64 20))),o0 50 (.pick (.tmp 46) (.cst (.bool true)) (.tmp 49)),m0 51 50,g0 52 51 false (.fld 5 (.tmp 1)),g0 53 51 false (.load false 1 (.tmp 52)),g0 54 51 false (.bin false .lss (.tmp 53) (.cst (.int .i64 0))),o0 55 (.pick (.tmp 51) (.cst (.bool true)) (.tmp 54)),m0 56 55,g0 57 56 false (.fld 5 (.tmp 1)),g0 58 56 false (.load false 1 (.tmp 57)),g0 59 56 false (.bin false .gtr (.tmp 58) (.cst (.int .i64 3))),o0 60 (.pick (.tmp 56) (.cst (.bool true)) (.tmp 59))]
def A20:List GOp:=[b0 2 false]
def A21:List GOp:=[f0 61 6 1,l0 62 1 61,o0 63 (.call 0 0 (.cst (.fn 41)) [(.tmp 62)] [] []),m0 64 63,g0 65 64 true (.fld 7 (.tmp 1)),g0 66 64 true (.load false 1 (.tmp 65)),g0 67 64 true (.call 0 0 (.cst (.fn 41)) [(.tmp 66)] [] []),o0 68 (.pick (.tmp 64) (.tmp 67) (.cst (.bool false))),m0 69 68,g0 70 69 true (.fld 7 (.tmp 1)),g0 71 69 true (.load false 1 (.tmp 70)),g0 72 69 true (.fld 6 (.tmp 1)),g0 73 69 true (.load false 1 (.tmp 72)),g0 74 69 true (.bin false .geq (.tmp 71) (.tmp 73)),o0 75 (.pick (.tmp 69) (.tmp 74) (.cst (.bool false))),m0 2 75]
def Bfz:AC:=(.seq (.ops A2y) (.seq (.seq (.ops A2z) (.cond (.tmp 60) (.seq (.ops A20) (.keep [] [(2,false)] [] [.loc 1 0] [] .ret)) .skip)) (.seq (.ops A21) (.keep [] [(2,false)] [] [.loc 1 0] [] .ret))))
def Q31:Fd:=⟨1,[.tmp 2],[],Bfz⟩
theorem Ask:Bl Tryz.prog Tryz.f87 Q31=true:=by kernel_rfl
theorem Nl{r1:Ad}{r:Bool}(h:Dy r1=some r):A3 Tryz.prog 87 [.pv (Ad.pv r1)] [] ⟨Vb r,[],[]⟩:=by
 refine Ap hm Tryz.func87 Ask (by kernel_rfl) ?_
 unfold Dy at h
 refine Ab Aw ?_
 refine Ae ?_
 obtain⟨c2,hc2,h⟩:=Ag h
 obtain⟨c3,hc3,h⟩:=Ag h
 obtain⟨c4,hc4,h⟩:=Ag h
 obtain⟨c5,hc5,h⟩:=Ag h
 obtain⟨c6,hc6,h⟩:=Ag h
 obtain⟨c7,hc7,h⟩:=Ag h
 obtain⟨c8,hc8,h⟩:=Ag h
 obtain⟨c9,hc9,h⟩:=Ag h
 obtain⟨c10,hc10,h⟩:=Ag h
 obtain⟨c11,hc11,h⟩:=Ag h
 obtain⟨c12,hc12,h⟩:=Ag h
 refine Ab (Bw 3 (Aj.dyn (Nw (decide (r1.Az<1)) c2 hc2) (Aj.puts 4 [(10,Vb (c2||(decide (r1.Az>999)))),(9,(Bf (!c2) (Vb (decide (r1.Az>999))))),(8,(Bf (!c2) (Vi r1.Az))),(7,(Bf (!c2) (.ptr (.loc 1 0) 0)))] (by cases c2<;>kernel_rfl) (Aj.dyn (Nw (c2||(decide (r1.Az>999))) c3 hc3) (Aj.puts 4 [(15,Vb (c3||(decide (r1.Ca<0)))),(14,(Bf (!c3) (Vb (decide (r1.Ca<0))))),(13,(Bf (!c3) (Vi r1.Ca))),(12,(Bf (!c3) (.ptr (.loc 1 0) 1)))] (by cases c3<;>kernel_rfl) (Aj.dyn (Nw (c3||(decide (r1.Ca<0))) c4 hc4) (Aj.puts 4 [(20,Vb (c4||(decide (r1.Ca>3)))),(19,(Bf (!c4) (Vb (decide (r1.Ca>3))))),(18,(Bf (!c4) (Vi r1.Ca))),(17,(Bf (!c4) (.ptr (.loc 1 0) 1)))] (by cases c4<;>kernel_rfl) (Aj.dyn (Nw (c4||(decide (r1.Ca>3))) c5 hc5) (Aj.puts 4 [(25,Vb (c5||(decide (r1.Bb<0)))),(24,(Bf (!c5) (Vb (decide (r1.Bb<0))))),(23,(Bf (!c5) (Vi r1.Bb))),(22,(Bf (!c5) (.ptr (.loc 1 0) 2)))] (by cases c5<;>kernel_rfl) (Aj.dyn (Nw (c5||(decide (r1.Bb<0))) c6 hc6) (Aj.puts 4 [(30,Vb (c6||(decide (r1.Bb>3)))),(29,(Bf (!c6) (Vb (decide (r1.Bb>3))))),(28,(Bf (!c6) (Vi r1.Bb))),(27,(Bf (!c6) (.ptr (.loc 1 0) 2)))] (by cases c6<;>kernel_rfl) (Aj.dyn (Nw (c6||(decide (r1.Bb>3))) c7 hc7) (Aj.puts 4 [(35,Vb (c7||(decide (r1.Bt<0)))),(34,(Bf (!c7) (Vb (decide (r1.Bt<0))))),(33,(Bf (!c7) (Vi r1.Bt))),(32,(Bf (!c7) (.ptr (.loc 1 0) 3)))] (by cases c7<;>kernel_rfl) (Aj.dyn (Nw (c7||(decide (r1.Bt<0))) c8 hc8) (Aj.puts 4 [(40,Vb (c8||(decide (r1.Bt>999)))),(39,(Bf (!c8) (Vb (decide (r1.Bt>999))))),(38,(Bf (!c8) (Vi r1.Bt))),(37,(Bf (!c8) (.ptr (.loc 1 0) 3)))] (by cases c8<;>kernel_rfl) (Aj.dyn (Nw (c8||(decide (r1.Bt>999))) c9 hc9) (Aj.puts 4 [(45,Vb (c9||(decide (r1.Cq<0)))),(44,(Bf (!c9) (Vb (decide (r1.Cq<0))))),(43,(Bf (!c9) (Vi r1.Cq))),(42,(Bf (!c9) (.ptr (.loc 1 0) 4)))] (by cases c9<;>kernel_rfl) (Aj.dyn (Nw (c9||(decide (r1.Cq<0))) c10 hc10) (Aj.puts 4 [(50,Vb (c10||(decide (r1.Cq>20)))),(49,(Bf (!c10) (Vb (decide (r1.Cq>20))))),(48,(Bf (!c10) (Vi r1.Cq))),(47,(Bf (!c10) (.ptr (.loc 1 0) 4)))] (by cases c10<;>kernel_rfl) (Aj.dyn (Nw (c10||(decide (r1.Cq>20))) c11 hc11) (Aj.puts 4 [(55,Vb (c11||(decide (r1.Dc<0)))),(54,(Bf (!c11) (Vb (decide (r1.Dc<0))))),(53,(Bf (!c11) (Vi r1.Dc))),(52,(Bf (!c11) (.ptr (.loc 1 0) 5)))] (by cases c11<;>kernel_rfl) (Aj.dyn (Nw (c11||(decide (r1.Dc<0))) c12 hc12) (Aj.puts 4 [(60,Vb (c12||(decide (r1.Dc>3)))),(59,(Bf (!c12) (Vb (decide (r1.Dc>3))))),(58,(Bf (!c12) (Vi r1.Dc))),(57,(Bf (!c12) (.ptr (.loc 1 0) 5)))] (by cases c12<;>kernel_rfl) ((.nil _))))))))))))))))))))))))) ?_
 refine Ar (t:=(c12||(decide (r1.Dc>3)))) (by kernel_rfl) h (fun hc h'=>?_) (fun hc h'=>?_)
 ·replace h:=h'
  refine Ae ?_
  refine Ab Aw ?_
  refine An rfl ?_
  cases h
  exact A8 Fw
 ·replace h:=h'
  refine Ay ?_
  obtain⟨x13,hx13,h⟩:=Ag h
  obtain⟨x14,hx14,h⟩:=Ag h
  obtain⟨c15,hc15,h⟩:=Ag h
  refine Ab (Bw 2 (Aj.cons (Tw (Eo hx13) Ax) (Kw 41 [] (Vb x13) Hw) (Bw 1 (Aj.puts 2 [(66,(Bf x13 (.pv (.int .i32 r1.Iu)))),(65,(Bf x13 (.ptr (.loc 1 0) 7)))] (by cases x13<;>kernel_rfl) (Aj.cons (Ci (on:=x13) (fun hg=>Eo (Dj hg hx14)) Ax) (Bn x13 (by kernel_rfl) (by
     cases x13
     ·exact .inl ⟨by kernel_rfl,by kernel_rfl⟩
     ·exact .inr ⟨by kernel_rfl,by kernel_rfl,Kw 41 [] (Vb x14) Hw⟩)) (Aj.puts 1 [(68,Vb (x13&&x14))] (by cases x13<;>kernel_rfl) (Aj.dyn (Nw (x13&&x14) c15 hc15) (Aj.puts 6 [(75,Vb (c15&&(decide (r1.Iu≥r1.Eu)))),(74,(Bf c15 (Vb (decide (r1.Iu≥r1.Eu))))),(73,(Bf c15 (.pv (.int .i32 r1.Eu)))),(72,(Bf c15 (.ptr (.loc 1 0) 6))),(71,(Bf c15 (.pv (.int .i32 r1.Iu)))),(70,(Bf c15 (.ptr (.loc 1 0) 7)))] (by cases c15<;>kernel_rfl) Aw)))))))) ?_
  refine W.keep rfl ?_
  cases h
  exact W.ret Fw
def A81:List GOp:=[o0 1 (.box (.tmp 0)),b0 2 false]
def A82:List GOp:=[f0 3 1 1,l0 4 1 3,q0 5 .lss 4 2,m0 6 5,g0 7 6 false (.fld 3 (.tmp 1)),g0 8 6 false (.load false 1 (.tmp 7)),g0 9 6 false (.bin false .eql (.tmp 8) (.cst (.int .i64 0))),g0 10 6 false (.mov (.tmp 9)),g0 11 10 true (.fld 4 (.tmp 1)),g0 12 10 true (.load false 1 (.tmp 11)),g0 13 10 true (.bin false .eql (.tmp 12) (.cst (.int .i64 0))),g0 14 6 false (.pick (.tmp 10) (.tmp 13) (.cst (.bool false))),o0 15 (.pick (.tmp 6) (.cst (.bool true)) (.tmp 14)),m0 2 15]
def Bhh:AC:=(.seq (.ops A81) (.seq (.ops A82) (.keep [] [(2,false)] [] [.loc 1 0] [] .ret)))
def Q64:Fd:=⟨1,[.tmp 2],[],Bhh⟩
theorem Auv:Bl Tryz.prog Tryz.f88 Q64=true:=by kernel_rfl
theorem Pw{r1:Ad}{r:Bool}(h:Er r1=some r):A3 Tryz.prog 88 [.pv (Ad.pv r1)] [] ⟨Vb r,[],[]⟩:=by
 refine Ap hm Tryz.func88 Auv (by kernel_rfl) ?_
 unfold Er at h
 refine Ab Aw ?_
 obtain⟨c2,hc2,h⟩:=Ag h
 obtain⟨c3,hc3,h⟩:=Ag h
 refine Ab (Bw 3 (Aj.dyn (Nw (decide (r1.Ca<2)) c2 hc2) (Aj.puts 3 [(9,(Bf (!c2) (Vb (r1.Bt==0)))),(8,(Bf (!c2) (Vi r1.Bt))),(7,(Bf (!c2) (.ptr (.loc 1 0) 3)))] (by cases c2<;>kernel_rfl) (Aj.dyn (Bn (!c2) (by kernel_rfl) (by
    cases c2
    ·exact .inr ⟨by kernel_rfl,by kernel_rfl,Nw (r1.Bt==0) c3 hc3⟩
    ·exact .inl ⟨by kernel_rfl,by kernel_rfl⟩)) (Aj.puts 5 [(15,Vb (c2||(c3&&(r1.Cq==0)))),(14,(Bf (!c2) (Vb (c3&&(r1.Cq==0))))),(13,(Bf ((!c2)&&c3) (Vb (r1.Cq==0)))),(12,(Bf ((!c2)&&c3) (Vi r1.Cq))),(11,(Bf ((!c2)&&c3) (.ptr (.loc 1 0) 4)))] (by cases c2<;>cases c3<;>kernel_rfl) Aw))))) ?_
 refine W.keep rfl ?_
 cases h
 exact W.ret Fw
def A16:List GOp:=[k0 4 0]
def A17:List GOp:=[m0 7 0,e0 8 7,k0 9 0]
def A18:List GOp:=[p0 10 .lss 9 8]
def A19:List GOp:=[m0 11 9,i0 12 3 7 9,t0 13 3 12,o0 6 (.alloc [.pv (.int .i64 0),.pv (.str []),.pv (.int .i64 0)]),m0 5 11,s0 3 6 13]
def A2a:List GOp:=[f0 14 0 6,l0 15 1 14,m0 16 1,p0 17 .eql 15 16]
def A2b:List GOp:=[m0 18 5,m0 4 18]
def A2c:List GOp:=[q0 19 .add 9 1,m0 9 19]
def A15:AC:=(.keep [] [(1,false),(7,false),(8,false),(9,false)] [] [.loc 6 0] [] (.seq (.ops A18) (.seq (.cond (.tmp 10) .skip (.exit 0)) (.seq (.pass 1 (.seq (.ops A19) (.seq (.ops A2a) (.cond (.tmp 17) (.seq (.ops A2b) (.keep [] [(4,false)] [] [.loc 6 0] [] .ret)) .skip)))) (.ops A2c)))))
def A2d:List GOp:=[k0 4 (-1)]
def Bfu:AC:=(.seq (.ops A16) (.seq (.seq (.ops A17) (.block 0 (.loop [1,7,8,9] [] A15))) (.seq (.keep [] [] [] [] [] (.ops A2d)) (.keep [] [(4,false)] [] [.loc 6 0] [] .ret))))
def Q28:Fd:=⟨2,[.tmp 4],[],Bfu⟩
theorem Ar8:Bl Tryz.prog Tryz.f89 Q28=true:=by kernel_rfl
theorem M8{l1:List Ac}{id2:Int}{r:Int}(h:Fb l1 id2=some r):A3 Tryz.prog 89 [Vl Ac.pv l1,Vi id2] [] ⟨Vi r,[],[]⟩:=by
 refine Ap hm Tryz.func89 Ar8 (by kernel_rfl) ?_
 unfold Fb at h
 refine Ab Aw ?_
 refine Ae ?_
 refine Ab (Bw 1 (Aj.dyn (Lw Ac.pv l1) Aw)) ?_
 obtain⟨j3,hj3,h⟩:=Ag h
 refine Ck (j:=j3) (o:=r) (fun p σ=>σ.tidy [] [] [] [] []=⟨[],[]⟩) ?_ (fun p σj3 hp hsj3=>?_) (fun p hp=>?_)
 ·refine B1 (fun q σ=>((σ.forget [1,7,8,9]).killAll []).tidy [] [(1,false),(7,false),(8,false),(9,false)] [] [.loc 6 0] []=⟨[(1,Vi id2),(7,Vl Ac.pv l1),(8,Vi (l1.length:Int)),(9,Vi q)],[]⟩) hj3 ?_ ?_
  ·show _=_
   kernel_rfl
  ·intro x4 σj3 oj3 hJj3 h
   refine W.keep hJj3 ?_
   refine Ab Aw ?_
   refine Ar (t:=decide (x4<(l1.length:Int))) (by kernel_rfl) h (fun hc h'=>?_) (fun hc h'=>?_)
   ·replace h:=h'
    refine Ay ?_
    refine Bs ?_
    refine Ae ?_
    obtain⟨x5,hx5,h⟩:=Ag h
    refine Ab (Bw 1 (Aj.dyn (Iw Ac.pv l1 x4 x5 hx5) Aw)) ?_
    refine Ae ?_
    refine Ab Aw ?_
    refine Ar (t:=(x5.Bc==id2)) (by kernel_rfl) h (fun hc h'=>?_) (fun hc h'=>?_)
    ·replace h:=h'
     refine Ae ?_
     refine Ab Aw ?_
     refine An rfl ?_
     cases h
     exact A8 ((Bh Cd (Ed Cd Dh (fun e=>by subst e;exact Fw))))
    ·replace h:=h'
     refine Ay ?_
     refine W.ops Aw ?_
     cases h
     exact Ow
   ·replace h:=h'
    cases h
    exact Bp ((Bh B6 (Eh (by(show _=_);kernel_rfl))))
 ·subst hp
  obtain⟨⟩:=p
  refine An hsj3 ?_
  refine Ab Aw ?_
  refine W.keep rfl ?_
  cases h
  exact W.ret Fw
 ·subst hp
  exact Option.some.inj h
def A3o:List GOp:=[o0 1 (.box (.tmp 0)),b0 2 false]
def A3p:List GOp:=[f0 7 0 1,l0 8 1 7,e0 9 8,k0 10 0]
def A3q:List GOp:=[p0 11 .lss 10 9]
def A3r:List GOp:=[m0 12 10,i0 13 3 8 10,t0 14 3 13,o0 4 (.alloc [.pv (.int .i64 0),.pv (.str []),.pv (.int .i64 0)]),m0 3 12,s0 3 4 14]
def A3s:List GOp:=[t0 15 3 4,o0 16 (.call 0 0 (.cst (.fn 86)) [(.tmp 15)] [] []),o0 17 (.un .not (.tmp 16)),m0 18 17,g0 19 18 false (.mov (.tmp 3)),g0 20 18 false (.bin false .gtr (.tmp 19) (.cst (.int .i64 0))),g0 21 18 false (.mov (.tmp 20)),g0 22 21 true (.fld 0 (.tmp 1)),g0 23 21 true (.load false 1 (.tmp 22)),g0 24 21 true (.mov (.tmp 3)),g0 25 21 true (.bin false .sub (.tmp 24) (.cst (.int .i64 1))),g0 26 21 true (.idx 3 (.tmp 23) (.tmp 25)),g0 27 21 true (.fld 0 (.tmp 26)),g0 28 21 true (.load false 1 (.tmp 27)),g0 29 21 true (.fld 0 (.tmp 4)),g0 30 21 true (.load false 1 (.tmp 29)),g0 31 21 true (.bin false .geq (.tmp 28) (.tmp 30)),g0 32 18 false (.pick (.tmp 21) (.tmp 31) (.cst (.bool false))),o0 33 (.pick (.tmp 18) (.cst (.bool true)) (.tmp 32))]
def A3t:List GOp:=[b0 2 false]
def A3u:List GOp:=[q0 34 .add 10 1,m0 10 34]
def A3n:AC:=(.keep [] [(1,false),(8,false),(9,false),(10,false)] [(.loc 1 0,false)] [.loc 4 0] [] (.seq (.ops A3q) (.seq (.cond (.tmp 11) .skip (.exit 0)) (.seq (.pass 1 (.seq (.ops A3r) (.seq (.draw [] A3s) (.cond (.tmp 33) (.seq (.ops A3t) (.keep [] [(2,false)] [] [.loc 1 0,.loc 4 0,.loc 6 0] [] .ret)) .skip)))) (.ops A3u)))))
def A3v:List GOp:=[f0 35 1 1,l0 36 1 35,e0 37 36,k0 38 0]
def A3w:List GOp:=[p0 39 .lss 38 37]
def Asu:List GOp:=[m0 40 38,i0 41 8 36 38,t0 42 8 41,o0 6 (.alloc [.pv (.int .i64 0),.pv (.int .i64 0),.pv (.int .i64 0),.pv (.int .i64 0),.pv (.int .i64 0),.pv (.int .i64 0),.pv (.int .i32 0),.pv (.int .i32 0)]),m0 5 40,s0 8 6 42]
def Asv:List GOp:=[t0 43 8 6,o0 44 (.call 0 0 (.cst (.fn 87)) [(.tmp 43)] [] []),o0 45 (.un .not (.tmp 44)),m0 46 45,g0 47 46 false (.load true 8 (.tmp 6)),g0 48 46 false (.call 0 0 (.cst (.fn 88)) [(.tmp 47)] [] []),g0 49 46 false (.un .not (.tmp 48)),o0 50 (.pick (.tmp 46) (.cst (.bool true)) (.tmp 49)),m0 51 50,g0 52 51 false (.mov (.tmp 5)),g0 53 51 false (.bin false .gtr (.tmp 52) (.cst (.int .i64 0))),g0 54 51 false (.mov (.tmp 53)),g0 55 54 true (.fld 1 (.tmp 1)),g0 56 54 true (.load false 1 (.tmp 55)),g0 57 54 true (.mov (.tmp 5)),g0 58 54 true (.bin false .sub (.tmp 57) (.cst (.int .i64 1))),g0 59 54 true (.idx 8 (.tmp 56) (.tmp 58)),g0 60 54 true (.fld 0 (.tmp 59)),g0 61 54 true (.load false 1 (.tmp 60)),g0 62 54 true (.fld 0 (.tmp 6)),g0 63 54 true (.load false 1 (.tmp 62)),g0 64 54 true (.bin false .geq (.tmp 61) (.tmp 63)),g0 65 51 false (.pick (.tmp 54) (.tmp 64) (.cst (.bool false))),o0 66 (.pick (.tmp 51) (.cst (.bool true)) (.tmp 65)),m0 67 66,g0 68 67 false (.fld 3 (.tmp 6)),g0 69 67 false (.load false 1 (.tmp 68)),g0 70 67 false (.bin false .gtr (.tmp 69) (.cst (.int .i64 0))),g0 71 67 false (.mov (.tmp 70)),g0 72 71 true (.fld 0 (.tmp 1)),g0 73 71 true (.load false 1 (.tmp 72)),g0 74 71 true (.fld 3 (.tmp 6)),g0 75 71 true (.load false 1 (.tmp 74)),g0 76 71 true (.call 0 0 (.cst (.fn 89)) [(.tmp 73),(.tmp 75)] [] []),g0 77 71 true (.bin false .lss (.tmp 76) (.cst (.int .i64 0))),g0 78 67 false (.pick (.tmp 71) (.tmp 77) (.cst (.bool false))),o0 79 (.pick (.tmp 67) (.cst (.bool true)) (.tmp 78))]
def Asw:List GOp:=[b0 2 false]
def Asx:List GOp:=[q0 80 .add 38 1,m0 38 80]
def Ast:AC:=(.keep [] [(1,false),(36,false),(37,false),(38,false)] [(.loc 1 0,false)] [.loc 6 0] [] (.seq (.ops A3w) (.seq (.cond (.tmp 39) .skip (.exit 2)) (.seq (.pass 3 (.seq (.ops Asu) (.seq (.draw [] Asv) (.cond (.tmp 79) (.seq (.ops Asw) (.keep [] [(2,false)] [] [.loc 1 0,.loc 4 0,.loc 6 0] [] .ret)) .skip)))) (.ops Asx)))))
def Asy:List GOp:=[f0 81 0 1,l0 82 1 81,e0 83 82,q0 84 .leq 83 100,m0 85 84,g0 86 85 true (.fld 1 (.tmp 1)),g0 87 85 true (.load false 1 (.tmp 86)),g0 88 85 true (.len false (.tmp 87)),g0 89 85 true (.bin false .leq (.tmp 88) (.cst (.int .i64 200))),o0 90 (.pick (.tmp 85) (.tmp 89) (.cst (.bool false))),m0 2 90]
def Bf3:AC:=(.seq (.ops A3o) (.seq (.seq (.ops A3p) (.block 0 (.loop [1,8,9,10] [] A3n))) (.seq (.seq (.keep [] [(1,false)] [(.loc 1 0,false)] [] [] (.ops A3v)) (.block 2 (.loop [1,36,37,38] [] Ast))) (.seq (.keep [] [(1,false)] [(.loc 1 0,false)] [] [] (.ops Asy)) (.keep [] [(2,false)] [] [.loc 1 0,.loc 4 0,.loc 6 0] [] .ret)))))
def Q35:Fd:=⟨1,[.tmp 2],[],Bf3⟩
theorem Ass:Bl Tryz.prog Tryz.f36 Q35=true:=by kernel_rfl
theorem Ob{c1:A4}{r:Bool}(h:Dv c1=some r):A3 Tryz.prog 36 [.pv (A4.pv c1)] [] ⟨Vb r,[],[]⟩:=by
 refine Ap hm Tryz.func36 Ass (by kernel_rfl) ?_
 unfold Dv at h
 refine Ab Aw ?_
 refine Ae ?_
 refine Ab (Bw 2 (Aj.dyn (Lw Ac.pv c1.As) Aw)) ?_
 obtain⟨j2,hj2,h⟩:=Ag h
 refine Ck (j:=j2) (o:=r) (fun p σ=>σ.tidy [] [(1,false)] [(.loc 1 0,false)] [] []=⟨[(1,.ptr (.loc 1 0) 0)],[(.loc 1 0,.box [Vl Ac.pv c1.As,Vl Ad.pv c1.Au])]⟩) ?_ (fun p σj2 hp hsj2=>?_) (fun p hp=>?_)
 ·refine B1 (fun q σ=>((σ.forget [1,8,9,10]).killAll []).tidy [] [(1,false),(8,false),(9,false),(10,false)] [(.loc 1 0,false)] [.loc 4 0] []=⟨[(1,.ptr (.loc 1 0) 0),(8,Vl Ac.pv c1.As),(9,Vi (c1.As.length:Int)),(10,Vi q)],[(.loc 1 0,.box [Vl Ac.pv c1.As,Vl Ad.pv c1.Au])]⟩) hj2 ?_ ?_
  ·show _=_
   kernel_rfl
  ·intro x3 σj2 oj2 hJj2 h
   refine W.keep hJj2 ?_
   refine Ab Aw ?_
   refine Ar (t:=decide (x3<(c1.As.length:Int))) (by kernel_rfl) h (fun hc h'=>?_) (fun hc h'=>?_)
   ·replace h:=h'
    refine Ay ?_
    refine Bs ?_
    refine Ae ?_
    obtain⟨x4,hx4,h⟩:=Ag h
    refine Ab (Bw 1 (Aj.dyn (Iw Ac.pv c1.As x3 x4 hx4) Aw)) ?_
    refine Ae ?_
    obtain⟨x5,hx5,h⟩:=Ag h
    obtain⟨c6,hc6,h⟩:=Ag h
    obtain⟨c7,hc7,h⟩:=Ag h
    obtain⟨x8,hx8,h⟩:=Ag h
    refine Bx (Tw (Mt hx5) Ax) (Dw 1 (Run.dyn (Kw 86 [] (Vb x5) Hw) (Dw 1 (Run.dyn (Nw (!x5) c6 hc6) (Run.puts 2 [(20,(Bf (!c6) (Vb (decide (x3>0))))),(19,(Bf (!c6) (Vi x3)))] (by cases c6<;>kernel_rfl) (Run.dyn (Bn (!c6) (by kernel_rfl) (by
       cases c6
       ·exact .inr ⟨by kernel_rfl,by kernel_rfl,Nw (decide (x3>0)) c7 hc7⟩
       ·exact .inl ⟨by kernel_rfl,by kernel_rfl⟩)) (Run.puts 4 [(25,(Bf ((!c6)&&c7) (Vi (IntKind.wrap .i64 (x3-1))))),(24,(Bf ((!c6)&&c7) (Vi x3))),(23,(Bf ((!c6)&&c7) (Vl Ac.pv c1.As))),(22,(Bf ((!c6)&&c7) (.ptr (.loc 1 0) 0)))] (by cases c6<;>cases c7<;>kernel_rfl) (Run.dyn (Bn ((!c6)&&c7) (by kernel_rfl) (by
       cases c6
       ·cases c7
        ·exact .inl ⟨by kernel_rfl,by kernel_rfl⟩
        ·exact .inr ⟨by kernel_rfl,by kernel_rfl,Iw Ac.pv c1.As (IntKind.wrap .i64 (x3-1)) x8 hx8⟩
       ·cases c7
        ·exact .inl ⟨by kernel_rfl,by kernel_rfl⟩
        ·exact .inl ⟨by kernel_rfl,by kernel_rfl⟩)) (Run.puts 7 [(33,Vb (c6||(c7&&(decide (x8.Bc≥x4.Bc))))),(32,(Bf (!c6) (Vb (c7&&(decide (x8.Bc≥x4.Bc)))))),(31,(Bf ((!c6)&&c7) (Vb (decide (x8.Bc≥x4.Bc))))),(30,(Bf ((!c6)&&c7) (Vi x4.Bc))),(29,(Bf ((!c6)&&c7) (.ptr (.loc 4 0) 0))),(28,(Bf ((!c6)&&c7) (Vi x8.Bc))),(27,(Bf ((!c6)&&c7) (.ipv (Ac.pv x8) 0)))] (by cases c6<;>cases c7<;>kernel_rfl) ((Run.nil))))))))))) ?_
    refine Ar (t:=(c6||(c7&&(decide (x8.Bc≥x4.Bc))))) (by kernel_rfl) h (fun hc h'=>?_) (fun hc h'=>?_)
    ·replace h:=h'
     refine Ae ?_
     refine Ab Aw ?_
     refine An rfl ?_
     cases h
     exact A8 ((Bh Cd (Ed Cd Dh (fun e=>by subst e;exact Fw))))
    ·replace h:=h'
     refine Ay ?_
     refine W.ops Aw ?_
     cases h
     exact Ow
   ·replace h:=h'
    cases h
    exact Bp ((Bh B6 (Eh (by(show _=_);kernel_rfl))))
 ·subst hp
  obtain⟨⟩:=p
  refine Ae ?_
  refine An hsj2 ?_
  refine Ab (Bw 2 (Aj.dyn (Lw Ad.pv c1.Au) Aw)) ?_
  obtain⟨j9,hj9,h⟩:=Ag h
  refine Ck (j:=j9) (o:=r) (fun p σ=>σ.tidy [] [(1,false)] [(.loc 1 0,false)] [] []=⟨[(1,.ptr (.loc 1 0) 0)],[(.loc 1 0,.box [Vl Ac.pv c1.As,Vl Ad.pv c1.Au])]⟩) ?_ (fun p σj9 hp hsj9=>?_) (fun p hp=>?_)
  ·refine B1 (fun q σ=>((σ.forget [1,36,37,38]).killAll []).tidy [] [(1,false),(36,false),(37,false),(38,false)] [(.loc 1 0,false)] [.loc 6 0] []=⟨[(1,.ptr (.loc 1 0) 0),(36,Vl Ad.pv c1.Au),(37,Vi (c1.Au.length:Int)),(38,Vi q)],[(.loc 1 0,.box [Vl Ac.pv c1.As,Vl Ad.pv c1.Au])]⟩) hj9 ?_ ?_
   ·show _=_
    kernel_rfl
   ·intro x10 σj9 oj9 hJj9 h
    refine W.keep hJj9 ?_
    refine Ab Aw ?_
    refine Ar (t:=decide (x10<(c1.Au.length:Int))) (by kernel_rfl) h (fun hc h'=>?_) (fun hc h'=>?_)
    ·replace h:=h'
     refine Ay ?_
     refine Bs ?_
     refine Ae ?_
     obtain⟨x11,hx11,h⟩:=Ag h
     refine Ab (Bw 1 (Aj.dyn (Iw Ad.pv c1.Au x10 x11 hx11) Aw)) ?_
     refine Ae ?_
     obtain⟨x12,hx12,h⟩:=Ag h
     obtain⟨c13,hc13,h⟩:=Ag h
     obtain⟨x14,hx14,h⟩:=Ag h
     obtain⟨c15,hc15,h⟩:=Ag h
     obtain⟨c16,hc16,h⟩:=Ag h
     obtain⟨x17,hx17,h⟩:=Ag h
     obtain⟨c18,hc18,h⟩:=Ag h
     obtain⟨c19,hc19,h⟩:=Ag h
     obtain⟨x20,hx20,h⟩:=Ag h
     refine Bx (Tw (Nl hx12) (Ci (on:=(!c13)) (fun hg=>Pw (Dj hg hx14)) (Ci (on:=((!c18)&&c19)) (fun hg=>M8 (Dj hg hx20)) Ax))) (Dw 1 (Run.dyn (Kw 87 [] (Vb x12) Hw) (Dw 1 (Run.dyn (Nw (!x12) c13 hc13) (Run.puts 1 [(47,(Bf (!c13) (.pv (Ad.pv x11))))] (by cases c13<;>kernel_rfl) (Run.dyn (Bn (!c13) (by kernel_rfl) (by
        cases c13
        ·exact .inr ⟨by kernel_rfl,by kernel_rfl,Kw 88 [] (Vb x14) (Ek rfl Hw)⟩
        ·exact .inl ⟨by kernel_rfl,by kernel_rfl⟩)) (Run.puts 2 [(50,Vb (c13||(!x14))),(49,(Bf (!c13) (Vb (!x14))))] (by cases c13<;>kernel_rfl) (Run.dyn (Nw (c13||(!x14)) c15 hc15) (Run.puts 2 [(53,(Bf (!c15) (Vb (decide (x10>0))))),(52,(Bf (!c15) (Vi x10)))] (by cases c15<;>kernel_rfl) (Run.dyn (Bn (!c15) (by kernel_rfl) (by
        cases c15
        ·exact .inr ⟨by kernel_rfl,by kernel_rfl,Nw (decide (x10>0)) c16 hc16⟩
        ·exact .inl ⟨by kernel_rfl,by kernel_rfl⟩)) (Run.puts 4 [(58,(Bf ((!c15)&&c16) (Vi (IntKind.wrap .i64 (x10-1))))),(57,(Bf ((!c15)&&c16) (Vi x10))),(56,(Bf ((!c15)&&c16) (Vl Ad.pv c1.Au))),(55,(Bf ((!c15)&&c16) (.ptr (.loc 1 0) 1)))] (by cases c15<;>cases c16<;>kernel_rfl) (Run.dyn (Bn ((!c15)&&c16) (by kernel_rfl) (by
        cases c15
        ·cases c16
         ·exact .inl ⟨by kernel_rfl,by kernel_rfl⟩
         ·exact .inr ⟨by kernel_rfl,by kernel_rfl,Iw Ad.pv c1.Au (IntKind.wrap .i64 (x10-1)) x17 hx17⟩
        ·cases c16
         ·exact .inl ⟨by kernel_rfl,by kernel_rfl⟩
         ·exact .inl ⟨by kernel_rfl,by kernel_rfl⟩)) (Run.puts 7 [(66,Vb (c15||(c16&&(decide (x17.Az≥x11.Az))))),(65,(Bf (!c15) (Vb (c16&&(decide (x17.Az≥x11.Az)))))),(64,(Bf ((!c15)&&c16) (Vb (decide (x17.Az≥x11.Az))))),(63,(Bf ((!c15)&&c16) (Vi x11.Az))),(62,(Bf ((!c15)&&c16) (.ptr (.loc 6 0) 0))),(61,(Bf ((!c15)&&c16) (Vi x17.Az))),(60,(Bf ((!c15)&&c16) (.ipv (Ad.pv x17) 0)))] (by cases c15<;>cases c16<;>kernel_rfl) (Run.dyn (Nw (c15||(c16&&(decide (x17.Az≥x11.Az)))) c18 hc18) (Run.puts 3 [(70,(Bf (!c18) (Vb (decide (x11.Bt>0))))),(69,(Bf (!c18) (Vi x11.Bt))),(68,(Bf (!c18) (.ptr (.loc 6 0) 3)))] (by cases c18<;>kernel_rfl) (Run.dyn (Bn (!c18) (by kernel_rfl) (by
        cases c18
        ·exact .inr ⟨by kernel_rfl,by kernel_rfl,Nw (decide (x11.Bt>0)) c19 hc19⟩
        ·exact .inl ⟨by kernel_rfl,by kernel_rfl⟩)) (Run.puts 4 [(75,(Bf ((!c18)&&c19) (Vi x11.Bt))),(74,(Bf ((!c18)&&c19) (.ptr (.loc 6 0) 3))),(73,(Bf ((!c18)&&c19) (Vl Ac.pv c1.As))),(72,(Bf ((!c18)&&c19) (.ptr (.loc 1 0) 0)))] (by cases c18<;>cases c19<;>kernel_rfl) (Run.dyn (Bn ((!c18)&&c19) (by kernel_rfl) (by
        cases c18
        ·cases c19
         ·exact .inl ⟨by kernel_rfl,by kernel_rfl⟩
         ·exact .inr ⟨by kernel_rfl,by kernel_rfl,Kw 89 [] (Vi x20) (Ek rfl (Ek rfl Hw))⟩
        ·cases c19
         ·exact .inl ⟨by kernel_rfl,by kernel_rfl⟩
         ·exact .inl ⟨by kernel_rfl,by kernel_rfl⟩)) (Run.puts 3 [(79,Vb (c18||(c19&&(decide (x20<0))))),(78,(Bf (!c18) (Vb (c19&&(decide (x20<0)))))),(77,(Bf ((!c18)&&c19) (Vb (decide (x20<0)))))] (by cases c18<;>cases c19<;>kernel_rfl) ((Run.nil))))))))))))))))))))) ?_
     refine Ar (t:=(c18||(c19&&(decide (x20<0))))) (by kernel_rfl) h (fun hc h'=>?_) (fun hc h'=>?_)
     ·replace h:=h'
      refine Ae ?_
      refine Ab Aw ?_
      refine An rfl ?_
      cases h
      exact A8 ((Bh Cd (Ed Cd Dh (fun e=>by subst e;exact Fw))))
     ·replace h:=h'
      refine Ay ?_
      refine W.ops Aw ?_
      cases h
      exact Ow
    ·replace h:=h'
     cases h
     exact Bp ((Bh B6 (Eh (by(show _=_);kernel_rfl))))
  ·subst hp
   obtain⟨⟩:=p
   refine An hsj9 ?_
   obtain⟨c21,hc21,h⟩:=Ag h
   refine Ab (Bw 2 (Aj.dyn (Lw Ac.pv c1.As) (Bw 1 (Aj.dyn (Nw (decide ((c1.As.length:Int)≤100)) c21 hc21) (Aj.puts 2 [(87,(Bf c21 (Vl Ad.pv c1.Au))),(86,(Bf c21 (.ptr (.loc 1 0) 1)))] (by cases c21<;>kernel_rfl) (Aj.dyn (Bn c21 (by kernel_rfl) (by
      cases c21
      ·exact .inl ⟨by kernel_rfl,by kernel_rfl⟩
      ·exact .inr ⟨by kernel_rfl,by kernel_rfl,Lw Ad.pv c1.Au⟩)) (Aj.puts 2 [(90,Vb (c21&&(decide ((c1.Au.length:Int)≤200)))),(89,(Bf c21 (Vb (decide ((c1.Au.length:Int)≤200)))))] (by cases c21<;>kernel_rfl) Aw))))))) ?_
   refine W.keep rfl ?_
   cases h
   exact W.ret Fw
  ·subst hp
   exact Option.some.inj h
 ·subst hp
  exact Option.some.inj h
def A5w:List GOp:=[o0 2 (.mov (.cst (.str [])))]
def A5x:List GOp:=[m0 3 0]
def A5y:List GOp:=[q0 5 .eql 3 0,m0 4 5]
def A5z:List GOp:=[o0 2 (.mov (.cst (.str [69,85,82])))]
def A50:List GOp:=[q0 7 .eql 3 1,m0 6 7]
def A51:List GOp:=[o0 2 (.mov (.cst (.str [74,80,89])))]
def A52:List GOp:=[q0 9 .eql 3 2,m0 8 9]
def A53:List GOp:=[o0 2 (.mov (.cst (.str [66,72,68])))]
def A54:List GOp:=[q0 11 .eql 3 3,m0 10 11]
def A55:List GOp:=[o0 2 (.mov (.cst (.str [85,83,68])))]
def Atv:List GOp:=[o0 2 (.mov (.cst (.str [])))]
def Bgq:AC:=(.seq (.ops A5w) (.seq (.seq (.ops A5x) (.pass 0 (.seq (.ops A5y) (.cond (.tmp 4) (.seq (.ops A5z) (.keep [] [(2,false)] [] [] [] .ret)) (.seq (.ops A50) (.cond (.tmp 6) (.seq (.ops A51) (.keep [] [(2,false)] [] [] [] .ret)) (.seq (.ops A52) (.cond (.tmp 8) (.seq (.ops A53) (.keep [] [(2,false)] [] [] [] .ret)) (.seq (.ops A54) (.cond (.tmp 10) (.seq (.ops A55) (.keep [] [(2,false)] [] [] [] .ret)) .skip)))))))))) (.seq (.ops Atv) (.keep [] [(2,false)] [] [] [] .ret))))
def Q48:Fd:=⟨1,[.tmp 2],[],Bgq⟩
theorem Atu:Bl Tryz.prog Tryz.f105 Q48=true:=by kernel_rfl
theorem Pe{cur1:Int}{r:List UInt8}(h:F7 cur1=some r):A3 Tryz.prog 105 [Vi cur1] [] ⟨.pv (.str r),[],[]⟩:=by
 refine Ap hm Tryz.func105 Atu (by kernel_rfl) ?_
 unfold F7 at h
 refine Ab Aw ?_
 refine Ae ?_
 refine Ab Aw ?_
 refine Bs ?_
 refine Ae ?_
 refine Ab Aw ?_
 refine Ar (t:=(cur1==0)) (by kernel_rfl) h (fun hc h'=>?_) (fun hc h'=>?_)
 ·replace h:=h'
  refine Ae ?_
  refine Ab Aw ?_
  refine An rfl ?_
  cases h
  exact A8 Fw
 ·replace h:=h'
  refine Ae ?_
  refine Ab Aw ?_
  refine Ar (t:=(cur1==1)) (by kernel_rfl) h (fun hc h'=>?_) (fun hc h'=>?_)
  ·replace h:=h'
   refine Ae ?_
   refine Ab Aw ?_
   refine An rfl ?_
   cases h
   exact A8 Fw
  ·replace h:=h'
   refine Ae ?_
   refine Ab Aw ?_
   refine Ar (t:=(cur1==2)) (by kernel_rfl) h (fun hc h'=>?_) (fun hc h'=>?_)
   ·replace h:=h'
    refine Ae ?_
    refine Ab Aw ?_
    refine An rfl ?_
    cases h
    exact A8 Fw
   ·replace h:=h'
    refine Ae ?_
    refine Ab Aw ?_
    refine Ar (t:=(cur1==3)) (by kernel_rfl) h (fun hc h'=>?_) (fun hc h'=>?_)
    ·replace h:=h'
     refine Ae ?_
     refine Ab Aw ?_
     refine An rfl ?_
     cases h
     exact A8 Fw
    ·replace h:=h'
     refine Ay ?_
     refine Ab Aw ?_
     refine W.keep rfl ?_
     cases h
     exact W.ret Fw
def A3x:List GOp:=[o0 1 (.box (.tmp 0)),b0 2 false]
def A3y:List GOp:=[f0 3 0 1,l0 4 1 3,o0 5 (.call 0 0 (.cst (.fn 105)) [(.tmp 4)] [] []),o0 6 (.bin false .neq (.tmp 5) (.cst (.str []))),m0 7 6,g0 8 7 true (.fld 1 (.tmp 1)),g0 9 7 true (.load false 1 (.tmp 8)),g0 10 7 true (.bin false .geq (.tmp 9) (.cst (.int .i64 (-1000000000000000)))),o0 11 (.pick (.tmp 7) (.tmp 10) (.cst (.bool false))),m0 12 11,g0 13 12 true (.fld 1 (.tmp 1)),g0 14 12 true (.load false 1 (.tmp 13)),g0 15 12 true (.bin false .leq (.tmp 14) (.cst (.int .i64 1000000000000000))),o0 16 (.pick (.tmp 12) (.tmp 15) (.cst (.bool false))),m0 2 16]
def Bf4:AC:=(.seq (.ops A3x) (.seq (.ops A3y) (.keep [] [(2,false)] [] [.loc 1 0] [] .ret)))
def Q36:Fd:=⟨1,[.tmp 2],[],Bf4⟩
theorem Asz:Bl Tryz.prog Tryz.f60 Q36=true:=by kernel_rfl
theorem Jn{m1:A5}{r:Bool}(h:E0 m1=some r):A3 Tryz.prog 60 [.pv (A5.pv m1)] [] ⟨Vb r,[],[]⟩:=by
 refine Ap hm Tryz.func60 Asz (by kernel_rfl) ?_
 unfold E0 at h
 refine Ab Aw ?_
 obtain⟨x2,hx2,h⟩:=Ag h
 obtain⟨c3,hc3,h⟩:=Ag h
 obtain⟨c4,hc4,h⟩:=Ag h
 refine Ab (Bw 2 (Aj.cons (Tw (Pe hx2) Ax) (Kw 105 [] (.pv (.str x2)) Hw) (Bw 1 (Aj.dyn (Nw (!(x2==[])) c3 hc3) (Aj.puts 4 [(11,Vb (c3&&(decide (m1.Ao≥(-1000000000000000))))),(10,(Bf c3 (Vb (decide (m1.Ao≥(-1000000000000000)))))),(9,(Bf c3 (Vi m1.Ao))),(8,(Bf c3 (.ptr (.loc 1 0) 1)))] (by cases c3<;>kernel_rfl) (Aj.dyn (Nw (c3&&(decide (m1.Ao≥(-1000000000000000)))) c4 hc4) (Aj.puts 4 [(16,Vb (c4&&(decide (m1.Ao≤1000000000000000)))),(15,(Bf c4 (Vb (decide (m1.Ao≤1000000000000000))))),(14,(Bf c4 (Vi m1.Ao))),(13,(Bf c4 (.ptr (.loc 1 0) 1)))] (by cases c4<;>kernel_rfl) Aw))))))) ?_
 refine W.keep rfl ?_
 cases h
 exact W.ret Fw
def A3z:List GOp:=[o0 1 (.box (.tmp 0)),b0 2 false]
def A30:List GOp:=[f0 6 2 1,t0 7 2 6,o0 8 (.call 0 0 (.cst (.fn 60)) [(.tmp 7)] [] []),m0 3 8]
def A31:List GOp:=[f0 9 5 1,l0 10 1 9,o0 11 (.call 0 0 (.cst (.fn 41)) [(.tmp 10)] [] []),m0 4 11]
def A32:List GOp:=[f0 12 6 1,l0 13 1 12,o0 14 (.call 0 0 (.cst (.fn 41)) [(.tmp 13)] [] []),m0 5 14]
def A33:List GOp:=[m0 15 3,o0 16 (.un .not (.tmp 15)),m0 17 16,g0 18 17 false (.mov (.tmp 4)),g0 19 17 false (.un .not (.tmp 18)),o0 20 (.pick (.tmp 17) (.cst (.bool true)) (.tmp 19)),m0 21 20,g0 22 21 false (.mov (.tmp 5)),g0 23 21 false (.un .not (.tmp 22)),o0 24 (.pick (.tmp 21) (.cst (.bool true)) (.tmp 23)),m0 25 24,g0 26 25 false (.fld 6 (.tmp 1)),g0 27 25 false (.load false 1 (.tmp 26)),g0 28 25 false (.fld 5 (.tmp 1)),g0 29 25 false (.load false 1 (.tmp 28)),g0 30 25 false (.bin false .lss (.tmp 27) (.tmp 29)),o0 31 (.pick (.tmp 25) (.cst (.bool true)) (.tmp 30)),m0 32 31,g0 33 32 false (.fld 2 (.tmp 1)),g0 34 32 false (.fld 1 (.tmp 33)),g0 35 32 false (.load false 1 (.tmp 34)),g0 36 32 false (.bin false .leq (.tmp 35) (.cst (.int .i64 0))),o0 37 (.pick (.tmp 32) (.cst (.bool true)) (.tmp 36)),m0 38 37,g0 39 38 false (.fld 7 (.tmp 1)),g0 40 38 false (.load false 1 (.tmp 39)),g0 41 38 false (.bin false .lss (.tmp 40) (.cst (.int .i64 0))),o0 42 (.pick (.tmp 38) (.cst (.bool true)) (.tmp 41)),m0 43 42,g0 44 43 false (.fld 7 (.tmp 1)),g0 45 43 false (.load false 1 (.tmp 44)),g0 46 43 false (.fld 2 (.tmp 1)),g0 47 43 false (.fld 1 (.tmp 46)),g0 48 43 false (.load false 1 (.tmp 47)),g0 49 43 false (.bin false .gtr (.tmp 45) (.tmp 48)),o0 50 (.pick (.tmp 43) (.cst (.bool true)) (.tmp 49))]
def A34:List GOp:=[b0 2 false]
def A35:List GOp:=[f0 51 0 1,l0 52 1 51,q0 53 .geq 52 1,m0 54 53,g0 55 54 true (.fld 0 (.tmp 1)),g0 56 54 true (.load false 1 (.tmp 55)),g0 57 54 true (.bin false .leq (.tmp 56) (.cst (.int .i64 1000000))),o0 58 (.pick (.tmp 54) (.tmp 57) (.cst (.bool false))),m0 59 58,g0 60 59 true (.fld 1 (.tmp 1)),g0 61 59 true (.load false 1 (.tmp 60)),g0 62 59 true (.bin false .geq (.tmp 61) (.cst (.int .i64 1))),o0 63 (.pick (.tmp 59) (.tmp 62) (.cst (.bool false))),m0 64 63,g0 65 64 true (.fld 1 (.tmp 1)),g0 66 64 true (.load false 1 (.tmp 65)),g0 67 64 true (.bin false .leq (.tmp 66) (.cst (.int .i64 999))),o0 68 (.pick (.tmp 64) (.tmp 67) (.cst (.bool false))),m0 69 68,g0 70 69 true (.fld 4 (.tmp 1)),g0 71 69 true (.load false 1 (.tmp 70)),g0 72 69 true (.bin false .geq (.tmp 71) (.cst (.int .i64 0))),o0 73 (.pick (.tmp 69) (.tmp 72) (.cst (.bool false))),m0 74 73,g0 75 74 true (.fld 4 (.tmp 1)),g0 76 74 true (.load false 1 (.tmp 75)),g0 77 74 true (.bin false .leq (.tmp 76) (.cst (.int .i64 9))),o0 78 (.pick (.tmp 74) (.tmp 77) (.cst (.bool false))),m0 2 78]
def Bf5:AC:=(.seq (.ops A3z) (.seq (.ops A30) (.seq (.ops A31) (.seq (.ops A32) (.seq (.seq (.ops A33) (.cond (.tmp 50) (.seq (.ops A34) (.keep [] [(2,false)] [] [.loc 1 0] [] .ret)) .skip)) (.seq (.ops A35) (.keep [] [(2,false)] [] [.loc 1 0] [] .ret)))))))
def Q37:Fd:=⟨1,[.tmp 2],[],Bf5⟩
theorem As0:Bl Tryz.prog Tryz.f57 Q37=true:=by kernel_rfl
theorem Hl{h1:Aa}{r:Bool}(h:D7 h1=some r):A3 Tryz.prog 57 [.pv (Aa.pv h1)] [] ⟨Vb r,[],[]⟩:=by
 refine Ap hm Tryz.func57 As0 (by kernel_rfl) ?_
 unfold D7 at h
 refine Ab Aw ?_
 obtain⟨x2,hx2,h⟩:=Ag h
 refine Ab (Bw 2 (Aj.cons (Tw (Jn hx2) Ax) (Kw 60 [] (Vb x2) Hw) Aw)) ?_
 obtain⟨x3,hx3,h⟩:=Ag h
 refine Ab (Bw 2 (Aj.cons (Tw (Eo hx3) Ax) (Kw 41 [] (Vb x3) Hw) Aw)) ?_
 obtain⟨x4,hx4,h⟩:=Ag h
 refine Ab (Bw 2 (Aj.cons (Tw (Eo hx4) Ax) (Kw 41 [] (Vb x4) Hw) Aw)) ?_
 refine Ae ?_
 obtain⟨c5,hc5,h⟩:=Ag h
 obtain⟨c6,hc6,h⟩:=Ag h
 obtain⟨c7,hc7,h⟩:=Ag h
 obtain⟨c8,hc8,h⟩:=Ag h
 obtain⟨c9,hc9,h⟩:=Ag h
 obtain⟨c10,hc10,h⟩:=Ag h
 refine Ab (Bw 2 (Aj.dyn (Nw (!x2) c5 hc5) (Aj.puts 3 [(20,Vb (c5||(!x3))),(19,(Bf (!c5) (Vb (!x3)))),(18,(Bf (!c5) (Vb x3)))] (by cases c5<;>kernel_rfl) (Aj.dyn (Nw (c5||(!x3)) c6 hc6) (Aj.puts 3 [(24,Vb (c6||(!x4))),(23,(Bf (!c6) (Vb (!x4)))),(22,(Bf (!c6) (Vb x4)))] (by cases c6<;>kernel_rfl) (Aj.dyn (Nw (c6||(!x4)) c7 hc7) (Aj.puts 6 [(31,Vb (c7||(decide (h1.Cb<h1.B5)))),(30,(Bf (!c7) (Vb (decide (h1.Cb<h1.B5))))),(29,(Bf (!c7) (.pv (.int .i32 h1.B5)))),(28,(Bf (!c7) (.ptr (.loc 1 0) 5))),(27,(Bf (!c7) (.pv (.int .i32 h1.Cb)))),(26,(Bf (!c7) (.ptr (.loc 1 0) 6)))] (by cases c7<;>kernel_rfl) (Aj.dyn (Nw (c7||(decide (h1.Cb<h1.B5))) c8 hc8) (Aj.puts 5 [(37,Vb (c8||(decide (h1.Ak.Ao≤0)))),(36,(Bf (!c8) (Vb (decide (h1.Ak.Ao≤0))))),(35,(Bf (!c8) (Vi h1.Ak.Ao))),(34,(Bf (!c8) (.ptr (.loc 1 0) 3))),(33,(Bf (!c8) (.ptr (.loc 1 0) 2)))] (by cases c8<;>kernel_rfl) (Aj.dyn (Nw (c8||(decide (h1.Ak.Ao≤0))) c9 hc9) (Aj.puts 4 [(42,Vb (c9||(decide (h1.Bo<0)))),(41,(Bf (!c9) (Vb (decide (h1.Bo<0))))),(40,(Bf (!c9) (Vi h1.Bo))),(39,(Bf (!c9) (.ptr (.loc 1 0) 7)))] (by cases c9<;>kernel_rfl) (Aj.dyn (Nw (c9||(decide (h1.Bo<0))) c10 hc10) (Aj.puts 7 [(50,Vb (c10||(decide (h1.Bo>h1.Ak.Ao)))),(49,(Bf (!c10) (Vb (decide (h1.Bo>h1.Ak.Ao))))),(48,(Bf (!c10) (Vi h1.Ak.Ao))),(47,(Bf (!c10) (.ptr (.loc 1 0) 3))),(46,(Bf (!c10) (.ptr (.loc 1 0) 2))),(45,(Bf (!c10) (Vi h1.Bo))),(44,(Bf (!c10) (.ptr (.loc 1 0) 7)))] (by cases c10<;>kernel_rfl) ((.nil _))))))))))))))) ?_
 refine Ar (t:=(c10||(decide (h1.Bo>h1.Ak.Ao)))) (by kernel_rfl) h (fun hc h'=>?_) (fun hc h'=>?_)
 ·replace h:=h'
  refine Ae ?_
  refine Ab Aw ?_
  refine An rfl ?_
  cases h
  exact A8 Fw
 ·replace h:=h'
  refine Ay ?_
  obtain⟨c11,hc11,h⟩:=Ag h
  obtain⟨c12,hc12,h⟩:=Ag h
  obtain⟨c13,hc13,h⟩:=Ag h
  obtain⟨c14,hc14,h⟩:=Ag h
  obtain⟨c15,hc15,h⟩:=Ag h
  refine Ab (Bw 3 (Aj.dyn (Nw (decide (h1.Bc≥1)) c11 hc11) (Aj.puts 4 [(58,Vb (c11&&(decide (h1.Bc≤1000000)))),(57,(Bf c11 (Vb (decide (h1.Bc≤1000000))))),(56,(Bf c11 (Vi h1.Bc))),(55,(Bf c11 (.ptr (.loc 1 0) 0)))] (by cases c11<;>kernel_rfl) (Aj.dyn (Nw (c11&&(decide (h1.Bc≤1000000))) c12 hc12) (Aj.puts 4 [(63,Vb (c12&&(decide (h1.Az≥1)))),(62,(Bf c12 (Vb (decide (h1.Az≥1))))),(61,(Bf c12 (Vi h1.Az))),(60,(Bf c12 (.ptr (.loc 1 0) 1)))] (by cases c12<;>kernel_rfl) (Aj.dyn (Nw (c12&&(decide (h1.Az≥1))) c13 hc13) (Aj.puts 4 [(68,Vb (c13&&(decide (h1.Az≤999)))),(67,(Bf c13 (Vb (decide (h1.Az≤999))))),(66,(Bf c13 (Vi h1.Az))),(65,(Bf c13 (.ptr (.loc 1 0) 1)))] (by cases c13<;>kernel_rfl) (Aj.dyn (Nw (c13&&(decide (h1.Az≤999))) c14 hc14) (Aj.puts 4 [(73,Vb (c14&&(decide (h1.A9≥0)))),(72,(Bf c14 (Vb (decide (h1.A9≥0))))),(71,(Bf c14 (Vi h1.A9))),(70,(Bf c14 (.ptr (.loc 1 0) 4)))] (by cases c14<;>kernel_rfl) (Aj.dyn (Nw (c14&&(decide (h1.A9≥0))) c15 hc15) (Aj.puts 4 [(78,Vb (c15&&(decide (h1.A9≤9)))),(77,(Bf c15 (Vb (decide (h1.A9≤9))))),(76,(Bf c15 (Vi h1.A9))),(75,(Bf c15 (.ptr (.loc 1 0) 4)))] (by cases c15<;>kernel_rfl) Aw))))))))))) ?_
  refine W.keep rfl ?_
  cases h
  exact W.ret Fw
def A37:List GOp:=[k0 2 0]
def A38:List GOp:=[k0 3 0]
def A39:List GOp:=[m0 6 3,m0 7 0,e0 8 7,p0 9 .lss 6 8]
def A4a:List GOp:=[m0 12 0,m0 13 3,i0 14 9 12 13,t0 15 9 14,o0 16 (.call 0 0 (.cst (.fn 57)) [(.tmp 15)] [] []),m0 4 16]
def A4b:List GOp:=[m0 17 4,o0 18 (.un .not (.tmp 17))]
def A4c:List GOp:=[k0 2 1]
def A4d:List GOp:=[m0 10 3,q0 11 .add 10 1,m0 3 11]
def A36:AC:=(.keep [] [(0,false),(3,false)] [] [] [] (.seq (.seq (.ops A39) (.cond (.tmp 9) .skip (.exit 0))) (.seq (.pass 1 (.seq (.ops A4a) (.seq (.ops A4b) (.cond (.tmp 18) (.seq (.ops A4c) (.keep [] [(2,false)] [] [] [] .ret)) .skip)))) (.ops A4d))))
def A4e:List GOp:=[k0 5 1]
def A4f:List GOp:=[m0 19 5,m0 20 0,e0 21 20,p0 22 .lss 19 21]
def As3:List GOp:=[m0 25 0,m0 26 5,i0 27 9 25 26,f0 28 0 27,l0 29 1 28,m0 30 0,m0 31 5,q0 32 .sub 31 1,i0 33 9 30 32,f0 34 0 33,l0 35 1 34,p0 36 .leq 29 35]
def As4:List GOp:=[k0 2 20]
def As5:List GOp:=[m0 23 5,q0 24 .add 23 1,m0 5 24]
def As2:AC:=(.keep [] [(0,false),(5,false)] [] [] [] (.seq (.seq (.ops A4f) (.cond (.tmp 22) .skip (.exit 2))) (.seq (.pass 3 (.seq (.draw [] As3) (.cond (.tmp 36) (.seq (.ops As4) (.keep [] [(2,false)] [] [] [] .ret)) .skip))) (.ops As5))))
def As6:List GOp:=[m0 37 0,e0 38 37,q0 39 .gtr 38 200]
def As7:List GOp:=[k0 2 6]
def As8:List GOp:=[k0 2 0]
def Bf6:AC:=(.seq (.ops A37) (.seq (.seq (.ops A38) (.block 0 (.loop [0,3] [] A36))) (.seq (.seq (.keep [] [(0,false)] [] [] [] (.ops A4e)) (.block 2 (.loop [0,5] [] As2))) (.seq (.seq (.keep [] [(0,false)] [] [] [] (.ops As6)) (.cond (.tmp 39) (.seq (.ops As7) (.keep [] [(2,false)] [] [] [] .ret)) .skip)) (.seq (.ops As8) (.keep [] [(2,false)] [] [] [] .ret))))))
def Q38:Fd:=⟨1,[.tmp 2],[],Bf6⟩
theorem As1:Bl Tryz.prog Tryz.f37 Q38=true:=by kernel_rfl
theorem Od{l1:List Aa}{r:Int}(h:Fs l1=some r):A3 Tryz.prog 37 [Vl Aa.pv l1] [] ⟨Vi r,[],[]⟩:=by
 refine Ap hm Tryz.func37 As1 (by kernel_rfl) ?_
 unfold Fs at h
 refine Ab Aw ?_
 refine Ae ?_
 refine Ab Aw ?_
 obtain⟨j2,hj2,h⟩:=Ag h
 refine Ck (j:=j2) (o:=r) (fun p σ=>σ.tidy [] [(0,false)] [] [] []=⟨[(0,Vl Aa.pv l1)],[]⟩) ?_ (fun p σj2 hp hsj2=>?_) (fun p hp=>?_)
 ·refine B1 (fun q σ=>((σ.forget [0,3]).killAll []).tidy [] [(0,false),(3,false)] [] [] []=⟨[(0,Vl Aa.pv l1),(3,Vi q)],[]⟩) hj2 ?_ ?_
  ·show _=_
   kernel_rfl
  ·intro i3 σj2 oj2 hJj2 h
   refine W.keep hJj2 ?_
   refine Ae ?_
   refine Ab (Bw 2 (Aj.dyn (Lw Aa.pv l1) Aw)) ?_
   refine Ar (t:=decide (i3<(l1.length:Int))) (by kernel_rfl) h (fun hc h'=>?_) (fun hc h'=>?_)
   ·replace h:=h'
    refine Ay ?_
    refine Bs ?_
    refine Ae ?_
    obtain⟨x4,hx4,h⟩:=Ag h
    obtain⟨x5,hx5,h⟩:=Ag h
    refine Ab (Bw 2 (Aj.dyn (Iw Aa.pv l1 i3 x4 hx4) (Bw 1 (Aj.cons (Tw (Hl hx5) Ax) (Kw 57 [] (Vb x5) Hw) Aw)))) ?_
    refine Ae ?_
    refine Ab Aw ?_
    refine Ar (t:= !x5) (by kernel_rfl) h (fun hc h'=>?_) (fun hc h'=>?_)
    ·replace h:=h'
     refine Ae ?_
     refine Ab Aw ?_
     refine An rfl ?_
     cases h
     exact A8 ((Bh Cd (Ed Cd Dh (fun e=>by subst e;exact Fw))))
    ·replace h:=h'
     refine Ay ?_
     refine W.ops Aw ?_
     cases h
     exact Ow
   ·replace h:=h'
    cases h
    exact Bp ((Bh B6 (Eh (by(show _=_);kernel_rfl))))
 ·subst hp
  obtain⟨⟩:=p
  refine Ae ?_
  refine An hsj2 ?_
  refine Ab Aw ?_
  obtain⟨j6,hj6,h⟩:=Ag h
  refine Ck (j:=j6) (o:=r) (fun p σ=>σ.tidy [] [(0,false)] [] [] []=⟨[(0,Vl Aa.pv l1)],[]⟩) ?_ (fun p σj6 hp hsj6=>?_) (fun p hp=>?_)
  ·refine B1 (fun q σ=>((σ.forget [0,5]).killAll []).tidy [] [(0,false),(5,false)] [] [] []=⟨[(0,Vl Aa.pv l1),(5,Vi q)],[]⟩) hj6 ?_ ?_
   ·show _=_
    kernel_rfl
   ·intro i7 σj6 oj6 hJj6 h
    refine W.keep hJj6 ?_
    refine Ae ?_
    refine Ab (Bw 2 (Aj.dyn (Lw Aa.pv l1) Aw)) ?_
    refine Ar (t:=decide (i7<(l1.length:Int))) (by kernel_rfl) h (fun hc h'=>?_) (fun hc h'=>?_)
    ·replace h:=h'
     refine Ay ?_
     refine Bs ?_
     refine Ae ?_
     obtain⟨x8,hx8,h⟩:=Ag h
     obtain⟨x9,hx9,h⟩:=Ag h
     refine Bx Ax (Dw 2 (Run.dyn (Iw Aa.pv l1 i7 x8 hx8) (Dw 5 (Run.dyn (Iw Aa.pv l1 (IntKind.wrap .i64 (i7-1)) x9 hx9) Cw)))) ?_
     refine Ar (t:=decide (x8.Bc≤x9.Bc)) (by kernel_rfl) h (fun hc h'=>?_) (fun hc h'=>?_)
     ·replace h:=h'
      refine Ae ?_
      refine Ab Aw ?_
      refine An rfl ?_
      cases h
      exact A8 ((Bh Cd (Ed Cd Dh (fun e=>by subst e;exact Fw))))
     ·replace h:=h'
      refine Ay ?_
      refine W.ops Aw ?_
      cases h
      exact Ow
    ·replace h:=h'
     cases h
     exact Bp ((Bh B6 (Eh (by(show _=_);kernel_rfl))))
  ·subst hp
   obtain⟨⟩:=p
   refine Ae ?_
   refine An hsj6 ?_
   refine Ab (Bw 1 (Aj.dyn (Lw Aa.pv l1) Aw)) ?_
   refine Ar (t:=decide ((l1.length:Int)>200)) (by kernel_rfl) h (fun hc h'=>?_) (fun hc h'=>?_)
   ·replace h:=h'
    refine Ae ?_
    refine Ab Aw ?_
    refine An rfl ?_
    cases h
    exact A8 Fw
   ·replace h:=h'
    refine Ay ?_
    refine Ab Aw ?_
    refine W.keep rfl ?_
    cases h
    exact W.ret Fw
  ·subst hp
   exact Option.some.inj h
 ·subst hp
  exact Option.some.inj h
end Go.Av.G
end
section
set_option linter.unusedVariables false
set_option linter.unusedSimpArgs false
set_option maxRecDepth 100000
set_option maxHeartbeats 8000000
namespace Go.Av.G
open Go Go.Av Go.Proofs
def A23:List GOp:=[b0 2 false]
def A24:List GOp:=[m0 5 0,e0 6 5,k0 7 0]
def A25:List GOp:=[p0 8 .lss 7 6]
def A26:List GOp:=[m0 9 7,i0 10 2 5 7,t0 11 2 10,o0 4 (.alloc [.pv (.int .i64 0),.pv (.int .i64 0)]),m0 3 9,s0 2 4 11]
def A27:List GOp:=[f0 12 0 4,l0 13 1 12,q0 14 .lss 13 1,m0 15 14,g0 16 15 false (.fld 0 (.tmp 4)),g0 17 15 false (.load false 1 (.tmp 16)),g0 18 15 false (.bin false .gtr (.tmp 17) (.cst (.int .i64 999))),o0 19 (.pick (.tmp 15) (.cst (.bool true)) (.tmp 18)),m0 20 19,g0 21 20 false (.fld 1 (.tmp 4)),g0 22 20 false (.load false 1 (.tmp 21)),g0 23 20 false (.bin false .lss (.tmp 22) (.cst (.int .i64 0))),o0 24 (.pick (.tmp 20) (.cst (.bool true)) (.tmp 23)),m0 25 24,g0 26 25 false (.fld 1 (.tmp 4)),g0 27 25 false (.load false 1 (.tmp 26)),g0 28 25 false (.bin false .gtr (.tmp 27) (.cst (.int .i64 1000000000000000))),o0 29 (.pick (.tmp 25) (.cst (.bool true)) (.tmp 28)),m0 30 29,g0 31 30 false (.mov (.tmp 3)),g0 32 30 false (.bin false .gtr (.tmp 31) (.cst (.int .i64 0))),g0 33 30 false (.mov (.tmp 32)),g0 34 33 true (.mov (.tmp 0)),g0 35 33 true (.mov (.tmp 3)),g0 36 33 true (.bin false .sub (.tmp 35) (.cst (.int .i64 1))),g0 37 33 true (.idx 2 (.tmp 34) (.tmp 36)),g0 38 33 true (.fld 0 (.tmp 37)),g0 39 33 true (.load false 1 (.tmp 38)),g0 40 33 true (.fld 0 (.tmp 4)),g0 41 33 true (.load false 1 (.tmp 40)),g0 42 33 true (.bin false .geq (.tmp 39) (.tmp 41)),g0 43 30 false (.pick (.tmp 33) (.tmp 42) (.cst (.bool false))),o0 44 (.pick (.tmp 30) (.cst (.bool true)) (.tmp 43))]
def A28:List GOp:=[b0 2 false]
def A29:List GOp:=[q0 45 .add 7 1,m0 7 45]
def A22:AC:=(.keep [] [(0,false),(5,false),(6,false),(7,false)] [] [.loc 4 0] [] (.seq (.ops A25) (.seq (.cond (.tmp 8) .skip (.exit 0)) (.seq (.pass 1 (.seq (.ops A26) (.seq (.draw [] A27) (.cond (.tmp 44) (.seq (.ops A28) (.keep [] [(2,false)] [] [.loc 4 0] [] .ret)) .skip)))) (.ops A29)))))
def A3a:List GOp:=[m0 46 0,e0 47 46,q0 48 .leq 47 200,m0 2 48]
def Bf0:AC:=(.seq (.ops A23) (.seq (.seq (.ops A24) (.block 0 (.loop [0,5,6,7] [] A22))) (.seq (.keep [] [(0,false)] [] [] [] (.ops A3a)) (.keep [] [(2,false)] [] [.loc 4 0] [] .ret))))
def Q32:Fd:=⟨1,[.tmp 2],[],Bf0⟩
theorem Asl:Bl Tryz.prog Tryz.f38 Q32=true:=by kernel_rfl
theorem Nm{l1:List Al}{r:Bool}(h:Fj l1=some r):A3 Tryz.prog 38 [Vl Al.pv l1] [] ⟨Vb r,[],[]⟩:=by
 refine Ap hm Tryz.func38 Asl (by kernel_rfl) ?_
 unfold Fj at h
 refine Ab Aw ?_
 refine Ae ?_
 refine Ab (Bw 1 (Aj.dyn (Lw Al.pv l1) Aw)) ?_
 obtain⟨j2,hj2,h⟩:=Ag h
 refine Ck (j:=j2) (o:=r) (fun p σ=>σ.tidy [] [(0,false)] [] [] []=⟨[(0,Vl Al.pv l1)],[]⟩) ?_ (fun p σj2 hp hsj2=>?_) (fun p hp=>?_)
 ·refine B1 (fun q σ=>((σ.forget [0,5,6,7]).killAll []).tidy [] [(0,false),(5,false),(6,false),(7,false)] [] [.loc 4 0] []=⟨[(0,Vl Al.pv l1),(5,Vl Al.pv l1),(6,Vi (l1.length:Int)),(7,Vi q)],[]⟩) hj2 ?_ ?_
  ·show _=_
   kernel_rfl
  ·intro x3 σj2 oj2 hJj2 h
   refine W.keep hJj2 ?_
   refine Ab Aw ?_
   refine Ar (t:=decide (x3<(l1.length:Int))) (by kernel_rfl) h (fun hc h'=>?_) (fun hc h'=>?_)
   ·replace h:=h'
    refine Ay ?_
    refine Bs ?_
    refine Ae ?_
    obtain⟨x4,hx4,h⟩:=Ag h
    refine Ab (Bw 1 (Aj.dyn (Iw Al.pv l1 x3 x4 hx4) Aw)) ?_
    refine Ae ?_
    obtain⟨c5,hc5,h⟩:=Ag h
    obtain⟨c6,hc6,h⟩:=Ag h
    obtain⟨c7,hc7,h⟩:=Ag h
    obtain⟨c8,hc8,h⟩:=Ag h
    obtain⟨c9,hc9,h⟩:=Ag h
    obtain⟨x10,hx10,h⟩:=Ag h
    refine Bx Ax (Dw 3 (Run.dyn (Nw (decide (x4.Az<1)) c5 hc5) (Run.puts 4 [(19,Vb (c5||(decide (x4.Az>999)))),(18,(Bf (!c5) (Vb (decide (x4.Az>999))))),(17,(Bf (!c5) (Vi x4.Az))),(16,(Bf (!c5) (.ptr (.loc 4 0) 0)))] (by cases c5<;>kernel_rfl) (Run.dyn (Nw (c5||(decide (x4.Az>999))) c6 hc6) (Run.puts 4 [(24,Vb (c6||(decide (x4.Ao<0)))),(23,(Bf (!c6) (Vb (decide (x4.Ao<0))))),(22,(Bf (!c6) (Vi x4.Ao))),(21,(Bf (!c6) (.ptr (.loc 4 0) 1)))] (by cases c6<;>kernel_rfl) (Run.dyn (Nw (c6||(decide (x4.Ao<0))) c7 hc7) (Run.puts 4 [(29,Vb (c7||(decide (x4.Ao>1000000000000000)))),(28,(Bf (!c7) (Vb (decide (x4.Ao>1000000000000000))))),(27,(Bf (!c7) (Vi x4.Ao))),(26,(Bf (!c7) (.ptr (.loc 4 0) 1)))] (by cases c7<;>kernel_rfl) (Run.dyn (Nw (c7||(decide (x4.Ao>1000000000000000))) c8 hc8) (Run.puts 2 [(32,(Bf (!c8) (Vb (decide (x3>0))))),(31,(Bf (!c8) (Vi x3)))] (by cases c8<;>kernel_rfl) (Run.dyn (Bn (!c8) (by kernel_rfl) (by
       cases c8
       ·exact .inr ⟨by kernel_rfl,by kernel_rfl,Nw (decide (x3>0)) c9 hc9⟩
       ·exact .inl ⟨by kernel_rfl,by kernel_rfl⟩)) (Run.puts 3 [(36,(Bf ((!c8)&&c9) (Vi (IntKind.wrap .i64 (x3-1))))),(35,(Bf ((!c8)&&c9) (Vi x3))),(34,(Bf ((!c8)&&c9) (Vl Al.pv l1)))] (by cases c8<;>cases c9<;>kernel_rfl) (Run.dyn (Bn ((!c8)&&c9) (by kernel_rfl) (by
       cases c8
       ·cases c9
        ·exact .inl ⟨by kernel_rfl,by kernel_rfl⟩
        ·exact .inr ⟨by kernel_rfl,by kernel_rfl,Iw Al.pv l1 (IntKind.wrap .i64 (x3-1)) x10 hx10⟩
       ·cases c9
        ·exact .inl ⟨by kernel_rfl,by kernel_rfl⟩
        ·exact .inl ⟨by kernel_rfl,by kernel_rfl⟩)) (Run.puts 7 [(44,Vb (c8||(c9&&(decide (x10.Az≥x4.Az))))),(43,(Bf (!c8) (Vb (c9&&(decide (x10.Az≥x4.Az)))))),(42,(Bf ((!c8)&&c9) (Vb (decide (x10.Az≥x4.Az))))),(41,(Bf ((!c8)&&c9) (Vi x4.Az))),(40,(Bf ((!c8)&&c9) (.ptr (.loc 4 0) 0))),(39,(Bf ((!c8)&&c9) (Vi x10.Az))),(38,(Bf ((!c8)&&c9) (.ipv (Al.pv x10) 0)))] (by cases c8<;>cases c9<;>kernel_rfl) ((Run.nil))))))))))))))) ?_
    refine Ar (t:=(c8||(c9&&(decide (x10.Az≥x4.Az))))) (by kernel_rfl) h (fun hc h'=>?_) (fun hc h'=>?_)
    ·replace h:=h'
     refine Ae ?_
     refine Ab Aw ?_
     refine An rfl ?_
     cases h
     exact A8 ((Bh Cd (Ed Cd Dh (fun e=>by subst e;exact Fw))))
    ·replace h:=h'
     refine Ay ?_
     refine W.ops Aw ?_
     cases h
     exact Ow
   ·replace h:=h'
    cases h
    exact Bp ((Bh B6 (Eh (by(show _=_);kernel_rfl))))
 ·subst hp
  obtain⟨⟩:=p
  refine An hsj2 ?_
  refine Ab (Bw 1 (Aj.dyn (Lw Al.pv l1) Aw)) ?_
  refine W.keep rfl ?_
  cases h
  exact W.ret Fw
 ·subst hp
  exact Option.some.inj h
def A4g:List GOp:=[o0 1 (.box (.tmp 0)),b0 2 false]
def A4h:List GOp:=[f0 3 0 1,t0 4 2 3,o0 5 (.call 0 0 (.cst (.fn 36)) [(.tmp 4)] [] []),m0 6 5,g0 7 6 true (.fld 2 (.tmp 1)),g0 8 6 true (.load false 1 (.tmp 7)),g0 9 6 true (.len false (.tmp 8)),g0 10 6 true (.bin false .leq (.tmp 9) (.cst (.int .i64 2000))),o0 11 (.pick (.tmp 6) (.tmp 10) (.cst (.bool false))),m0 12 11,g0 13 12 true (.fld 3 (.tmp 1)),g0 14 12 true (.load false 1 (.tmp 13)),g0 15 12 true (.call 0 0 (.cst (.fn 37)) [(.tmp 14)] [] []),g0 16 12 true (.bin false .eql (.tmp 15) (.cst (.int .i64 0))),o0 17 (.pick (.tmp 12) (.tmp 16) (.cst (.bool false))),m0 18 17,g0 19 18 true (.fld 4 (.tmp 1)),g0 20 18 true (.load false 1 (.tmp 19)),g0 21 18 true (.call 0 0 (.cst (.fn 38)) [(.tmp 20)] [] []),o0 22 (.pick (.tmp 18) (.tmp 21) (.cst (.bool false))),m0 2 22]
def Bf7:AC:=(.seq (.ops A4g) (.seq (.ops A4h) (.keep [] [(2,false)] [] [.loc 1 0] [] .ret)))
def Q39:Fd:=⟨1,[.tmp 2],[],Bf7⟩
theorem As9:Bl Tryz.prog Tryz.f12 Q39=true:=by kernel_rfl
theorem Oh{t1:Ah}{r:Bool}(h:D8 t1=some r):A3 Tryz.prog 12 [.pv (Ah.pv t1)] [] ⟨Vb r,[],[]⟩:=by
 refine Ap hm Tryz.func12 As9 (by kernel_rfl) ?_
 unfold D8 at h
 refine Ab Aw ?_
 obtain⟨x2,hx2,h⟩:=Ag h
 obtain⟨c3,hc3,h⟩:=Ag h
 obtain⟨x4,hx4,h⟩:=Ag h
 obtain⟨c5,hc5,h⟩:=Ag h
 obtain⟨x6,hx6,h⟩:=Ag h
 refine Ab (Bw 2 (Aj.cons (Tw (Ob hx2) Ax) (Kw 36 [] (Vb x2) Hw) (Bw 1 (Aj.puts 2 [(8,(Bf x2 (Vl Af.pv t1.Fl))),(7,(Bf x2 (.ptr (.loc 1 0) 2)))] (by cases x2<;>kernel_rfl) (Aj.dyn (Bn x2 (by kernel_rfl) (by
    cases x2
    ·exact .inl ⟨by kernel_rfl,by kernel_rfl⟩
    ·exact .inr ⟨by kernel_rfl,by kernel_rfl,Lw Af.pv t1.Fl⟩)) (Aj.puts 2 [(11,Vb (x2&&(decide ((t1.Fl.length:Int)≤2000)))),(10,(Bf x2 (Vb (decide ((t1.Fl.length:Int)≤2000)))))] (by cases x2<;>kernel_rfl) (Aj.dyn (Nw (x2&&(decide ((t1.Fl.length:Int)≤2000))) c3 hc3) (Aj.puts 2 [(14,(Bf c3 (Vl Aa.pv t1.A7))),(13,(Bf c3 (.ptr (.loc 1 0) 3)))] (by cases c3<;>kernel_rfl) (Aj.cons (Ci (on:=c3) (fun hg=>Od (Dj hg hx4)) Ax) (Bn c3 (by kernel_rfl) (by
    cases c3
    ·exact .inl ⟨by kernel_rfl,by kernel_rfl⟩
    ·exact .inr ⟨by kernel_rfl,by kernel_rfl,Kw 37 [] (Vi x4) Hw⟩)) (Aj.puts 2 [(17,Vb (c3&&(x4==0))),(16,(Bf c3 (Vb (x4==0))))] (by cases c3<;>kernel_rfl) (Aj.dyn (Nw (c3&&(x4==0)) c5 hc5) (Aj.puts 2 [(20,(Bf c5 (Vl Al.pv t1.A6))),(19,(Bf c5 (.ptr (.loc 1 0) 4)))] (by cases c5<;>kernel_rfl) (Aj.cons (Ci (on:=c5) (fun hg=>Nm (Dj hg hx6)) Ax) (Bn c5 (by kernel_rfl) (by
    cases c5
    ·exact .inl ⟨by kernel_rfl,by kernel_rfl⟩
    ·exact .inr ⟨by kernel_rfl,by kernel_rfl,Kw 38 [] (Vb x6) Hw⟩)) (Aj.puts 1 [(22,Vb (c5&&x6))] (by cases c5<;>kernel_rfl) Aw)))))))))))))) ?_
 refine W.keep rfl ?_
 cases h
 exact W.ret Fw
def A83:List GOp:=[o0 0 (.alloc [.nils,.nils,.nils,.nils,.nils])]
def A84:List GOp:=[o0 1 (.build [.pv (.int .i64 0),.pv (.int .i64 0),.pv (.int .i64 0),.pv (.int .i64 0),.pv (.int .i64 0),.pv (.int .i64 0),.pv (.int .i32 0),.pv (.int .i32 0)] [(0,1,(.cst (.int .i64 5))),(1,1,(.cst (.int .i64 1))),(7,1,(.cst (.int .i32 50000)))]),o0 2 (.lit false 8 [(.tmp 1)]),o0 3 (.build [.nils,.nils] [(1,1,(.tmp 2))]),o0 4 (.build [.pv (.int .i64 0),.pv (.int .i64 0)] [(1,1,(.cst (.int .i64 (-100))))]),o0 5 (.build [.pv (.int .i64 0),.pv (.int .i64 0),.pv (.int .i64 0)] [(0,1,(.cst (.int .i64 5))),(1,2,(.tmp 4))]),o0 6 (.lit false 3 [(.tmp 5)]),o0 7 (.build [.pv (.int .i64 0),.pv (.int .i32 0),.pv (.int .i32 0),.nils,.pv (.int .i64 0),.pv (.int .i64 0),.pv (.str [])] [(2,1,(.cst (.int .i32 3))),(3,1,(.tmp 6))]),o0 8 (.lit false 7 [(.tmp 7)]),o0 9 (.build [.pv (.int .i64 0),.pv (.int .i64 0)] [(1,1,(.cst (.int .i64 30)))]),o0 10 (.build [.pv (.int .i64 0),.pv (.int .i64 0),.pv (.int .i64 0),.pv (.int .i64 0),.pv (.int .i64 0),.pv (.int .i32 0),.pv (.int .i32 0),.pv (.int .i64 0),.pv (.bool false)] [(0,1,(.cst (.int .i64 1))),(1,1,(.cst (.int .i64 5))),(2,2,(.tmp 9)),(4,1,(.cst (.int .i64 2))),(5,1,(.cst (.int .i32 3))),(6,1,(.cst (.int .i32 9)))]),o0 11 (.lit false 9 [(.tmp 10)]),o0 12 (.build [.nils,.nils,.nils,.nils,.nils] [(0,2,(.tmp 3)),(2,1,(.tmp 8)),(3,1,(.tmp 11))]),s0 5 0 12]
def Bhi:AC:=(.seq (.ops A83) (.seq (.ops A84) (.keep [] [(0,false)] [(.loc 0 0,true)] [] [] .ret)))
def Q65:Fd:=⟨0,[.cell 0 true 5],[],Bhi⟩
theorem Auw:Bl Tryz.prog Tryz.f39 Q65=true:=by kernel_rfl
theorem K5{r:Ah}(h:Gp=some r):A3 Tryz.prog 39 [] [] ⟨.pv (Ah.pv r),[],[]⟩:=by
 refine Ap hm Tryz.func39 Auw (by kernel_rfl) ?_
 unfold Gp at h
 refine Ab Aw ?_
 refine Ab Aw ?_
 refine W.keep rfl ?_
 cases h
 exact W.ret Fw
def Bcd:List GOp:=[b0 6 false]
def Bce:List GOp:=[m0 7 0,m0 8 1,p0 9 .geq 7 8,m0 10 9,g0 11 10 true (.mov (.tmp 0)),g0 12 10 true (.mov (.tmp 2)),g0 13 10 true (.bin false .leq (.tmp 11) (.tmp 12)),o0 14 (.pick (.tmp 10) (.tmp 13) (.cst (.bool false))),m0 6 14]
def Bis:AC:=(.seq (.ops Bcd) (.seq (.ops Bce) (.keep [] [(6,false)] [] [] [] .ret)))
def Q92:Fd:=⟨3,[.tmp 6],[],Bis⟩
theorem Awn:Bl Tryz.prog Tryz.f30 Q92=true:=by kernel_rfl
theorem Vm{n1:Int}{low2:Int}{high3:Int}{r:Bool}(h:Jl n1 low2 high3=some r):A3 Tryz.prog 30 [Vi n1,Vi low2,Vi high3] [] ⟨Vb r,[],[]⟩:=by
 refine Ap hm Tryz.func30 Awn (by kernel_rfl) ?_
 unfold Jl at h
 refine Ab Aw ?_
 obtain⟨c4,hc4,h⟩:=Ag h
 refine Ab (Bw 3 (Aj.dyn (Nw (decide (n1≥low2)) c4 hc4) (Aj.puts 4 [(14,Vb (c4&&(decide (n1≤high3)))),(13,(Bf c4 (Vb (decide (n1≤high3))))),(12,(Bf c4 (Vi high3))),(11,(Bf c4 (Vi n1)))] (by cases c4<;>kernel_rfl) Aw))) ?_
 refine W.keep rfl ?_
 cases h
 exact W.ret Fw
def Aom:List GOp:=[o0 4 (.box (.tmp 0)),k0 8 0,k0 9 0]
def Aon:List GOp:=[t0 12 5 4,o0 13 (.call 0 0 (.cst (.fn 11)) [(.tmp 12)] [] []),o0 14 (.un .not (.tmp 13)),m0 15 14,g0 16 15 false (.mov (.tmp 3)),g0 17 15 false (.call 0 0 (.cst (.fn 30)) [(.tmp 16),(.cst (.int .i64 0)),(.cst (.int .i64 9))] [] []),g0 18 15 false (.un .not (.tmp 17)),o0 19 (.pick (.tmp 15) (.cst (.bool true)) (.tmp 18))]
def Aoo:List GOp:=[k0 8 0,k0 9 1]
def Aop:List GOp:=[t0 21 5 4,m0 22 1,m0 23 2,o0 24 (.call 0 0 (.cst (.fn 28)) [(.tmp 21),(.tmp 22),(.tmp 23)] [] []),m0 20 24,o0 25 (.ext 0 (.tmp 20)),o0 26 (.ext 1 (.tmp 20)),o0 10 (.alloc [.pv (.int .i64 0),.pv (.int .i64 0),.pv (.int .i64 0)]),s0 3 10 25,m0 11 26]
def Aoq:List GOp:=[m0 27 11,o0 28 (.isNil true (.tmp 27))]
def Aor:List GOp:=[m0 29 11,o0 30 (.call 0 0 (.cst (.fn 29)) [(.tmp 29)] [] []),k0 8 0,m0 9 30]
def Aos:List GOp:=[t0 31 3 10,t0 32 5 4,m0 33 1,m0 34 2,m0 35 3,o0 36 (.call 0 0 (.cst (.fn 31)) [(.tmp 31),(.tmp 32),(.tmp 33),(.tmp 34),(.tmp 35)] [] []),m0 8 36,k0 9 0]
def Ayq:AC:=(.seq (.ops Aom) (.seq (.seq (.ops Aon) (.cond (.tmp 19) (.seq (.ops Aoo) (.keep [] [(8,false),(9,false)] [] [.loc 10 0,.loc 4 0] [] .ret)) .skip)) (.seq (.ops Aop) (.seq (.seq (.ops Aoq) (.cond (.tmp 28) (.seq (.ops Aor) (.keep [] [(8,false),(9,false)] [] [.loc 10 0,.loc 4 0] [] .ret)) .skip)) (.seq (.ops Aos) (.keep [] [(8,false),(9,false)] [] [.loc 10 0,.loc 4 0] [] .ret))))))
def Bew:Fd:=⟨4,[.tmp 8,.tmp 9],[],Ayq⟩
theorem Akn:Bl Tryz.prog Tryz.f9 Bew=true:=by kernel_rfl
theorem Ro{t1:Ah}{acc2:Int}{now3:Int}{rank4:Int}{r:Int×Int}(h:Kc t1 acc2 now3 rank4=some r):A3 Tryz.prog 9 [.pv (Ah.pv t1),Vi acc2,.pv (.int .i32 now3),Vi rank4] [] ⟨.tup [Vi r.1,Vi r.2],[],[]⟩:=by
 refine Ap hm Tryz.func9 Akn (by kernel_rfl) ?_
 unfold Kc at h
 refine Ab Aw ?_
 refine Ae ?_
 obtain⟨x5,hx5,h⟩:=Ag h
 obtain⟨c6,hc6,h⟩:=Ag h
 obtain⟨x7,hx7,h⟩:=Ag h
 refine Ab (Bw 1 (Aj.cons (Tw (Me hx5) Ax) (Kw 11 [] (Vb x5) Hw) (Bw 1 (Aj.dyn (Nw (!x5) c6 hc6) (Aj.puts 1 [(16,(Bf (!c6) (Vi rank4)))] (by cases c6<;>kernel_rfl) (Aj.cons (Ci (on:=(!c6)) (fun hg=>Vm (Dj hg hx7)) Ax) (Bn (!c6) (by kernel_rfl) (by
    cases c6
    ·exact .inr ⟨by kernel_rfl,by kernel_rfl,Kw 30 [] (Vb x7) Hw⟩
    ·exact .inl ⟨by kernel_rfl,by kernel_rfl⟩)) (Aj.puts 2 [(19,Vb (c6||(!x7))),(18,(Bf (!c6) (Vb (!x7))))] (by cases c6<;>kernel_rfl) ((.nil _))))))))) ?_
 refine Ar (t:=(c6||(!x7))) (by kernel_rfl) h (fun hc h'=>?_) (fun hc h'=>?_)
 ·replace h:=h'
  refine Ae ?_
  refine Ab Aw ?_
  refine An rfl ?_
  cases h
  exact A8 Fw
 ·replace h:=h'
  refine Ay ?_
  obtain⟨x8,hx8,h⟩:=Ag h
  refine Ab (Bw 3 (Aj.cons (Tw (N8 hx8) Ax) (Kw 28 [] (.tup [.pv (Be.pv x8.1),.pv (Ww 113 x8.2)]) Hw) Aw)) ?_
  refine Ae ?_
  refine Ab (Bw 1 (Aj.dyn (K0 (t:=113) (e:=x8.2) (by kernel_rfl)) ((.nil _)))) ?_
  refine Ar (t:=Option.isSome x8.2) (by kernel_rfl) h (fun hc h'=>?_) (fun hc h'=>?_)
  ·replace h:=h'
   refine Ae ?_
   obtain⟨x9,hx9,h⟩:=Ag h
   refine Ab (Bw 1 (Aj.cons (Tw (Mg hx9) Ax) (Kw 29 [] (Vi x9) Hw) Aw)) ?_
   refine An rfl ?_
   cases h
   exact A8 Fw
  ·replace h:=h'
   refine Ay ?_
   obtain⟨x10,hx10,h⟩:=Ag h
   refine Ab (Bw 5 (Aj.cons (Tw (J3 hx10) Ax) (Kw 31 [] (Vi x10) Hw) Aw)) ?_
   refine W.keep rfl ?_
   cases h
   exact W.ret Fw
def A4j:List GOp:=[b0 0 false]
def A4k:List GOp:=[o0 6 (.call 0 0 (.cst (.fn 39)) [] [] []),o0 7 (.call 0 0 (.cst (.fn 9)) [(.tmp 6),(.cst (.int .i64 5)),(.cst (.int .i32 4)),(.cst (.int .i64 0))] [] []),m0 5 7,o0 8 (.ext 0 (.tmp 5)),o0 9 (.ext 1 (.tmp 5)),m0 1 8,m0 2 9]
def A4l:List GOp:=[o0 11 (.call 0 0 (.cst (.fn 39)) [] [] []),o0 12 (.call 0 0 (.cst (.fn 9)) [(.tmp 11),(.cst (.int .i64 5)),(.cst (.int .i32 4)),(.cst (.int .i64 3))] [] []),m0 10 12,o0 13 (.ext 0 (.tmp 10)),o0 14 (.ext 1 (.tmp 10)),m0 3 13,m0 4 14]
def A4m:List GOp:=[m0 15 2,q0 16 .eql 15 0,m0 17 16,g0 18 17 true (.mov (.tmp 4)),g0 19 17 true (.bin false .eql (.tmp 18) (.cst (.int .i64 0))),o0 20 (.pick (.tmp 17) (.tmp 19) (.cst (.bool false))),m0 21 20,g0 22 21 true (.mov (.tmp 1)),g0 23 21 true (.bin false .eql (.tmp 22) (.cst (.int .i64 70))),o0 24 (.pick (.tmp 21) (.tmp 23) (.cst (.bool false))),m0 25 24,g0 26 25 true (.mov (.tmp 3)),g0 27 25 true (.bin false .eql (.tmp 26) (.cst (.int .i64 100))),o0 28 (.pick (.tmp 25) (.tmp 27) (.cst (.bool false))),m0 0 28]
def Bgi:AC:=(.seq (.ops A4j) (.seq (.ops A4k) (.seq (.ops A4l) (.seq (.ops A4m) (.keep [] [(0,false)] [] [] [] .ret)))))
def Q40:Fd:=⟨0,[.tmp 0],[],Bgi⟩
theorem Ata:Bl Tryz.prog Tryz.f13 Q40=true:=by kernel_rfl
theorem Fx{r:Bool}(h:Cu=some r):A3 Tryz.prog 13 [] [] ⟨Vb r,[],[]⟩:=by
 refine Ap hm Tryz.func13 Ata (by kernel_rfl) ?_
 unfold Cu at h
 refine Ab Aw ?_
 obtain⟨x1,hx1,h⟩:=Ag h
 obtain⟨x2,hx2,h⟩:=Ag h
 refine Ab (Aj.cons (Tw (K5 hx1) Ax) (Kw 39 [] (.pv (Ah.pv x1)) Hw) (Aj.cons (Tw (Ro hx2) Ax) (Kw 9 [] (.tup [Vi x2.1,Vi x2.2]) Hw) Aw)) ?_
 obtain⟨x3,hx3,h⟩:=Ag h
 obtain⟨x4,hx4,h⟩:=Ag h
 refine Ab (Aj.cons (Tw (K5 hx3) Ax) (Kw 39 [] (.pv (Ah.pv x3)) Hw) (Aj.cons (Tw (Ro hx4) Ax) (Kw 9 [] (.tup [Vi x4.1,Vi x4.2]) Hw) Aw)) ?_
 obtain⟨c5,hc5,h⟩:=Ag h
 obtain⟨c6,hc6,h⟩:=Ag h
 obtain⟨c7,hc7,h⟩:=Ag h
 refine Ab (Bw 2 (Aj.dyn (Nw (x2.2==0) c5 hc5) (Aj.puts 3 [(20,Vb (c5&&(x4.2==0))),(19,(Bf c5 (Vb (x4.2==0)))),(18,(Bf c5 (Vi x4.2)))] (by cases c5<;>kernel_rfl) (Aj.dyn (Nw (c5&&(x4.2==0)) c6 hc6) (Aj.puts 3 [(24,Vb (c6&&(x2.1==70))),(23,(Bf c6 (Vb (x2.1==70)))),(22,(Bf c6 (Vi x2.1)))] (by cases c6<;>kernel_rfl) (Aj.dyn (Nw (c6&&(x2.1==70)) c7 hc7) (Aj.puts 3 [(28,Vb (c7&&(x4.1==100))),(27,(Bf c7 (Vb (x4.1==100)))),(26,(Bf c7 (Vi x4.1)))] (by cases c7<;>kernel_rfl) Aw))))))) ?_
 refine W.keep rfl ?_
 cases h
 exact W.ret Fw
def A57:List GOp:=[o0 2 (.box (.tmp 0)),o0 3 (.box (.tmp 1)),b0 4 false]
def A58:List GOp:=[f0 7 0 2,l0 8 1 7,e0 9 8,f0 10 0 3,l0 11 1 10,e0 12 11,p0 13 .neq 9 12,m0 14 13,g0 15 14 false (.fld 1 (.tmp 2)),g0 16 14 false (.load false 1 (.tmp 15)),g0 17 14 false (.len false (.tmp 16)),g0 18 14 false (.fld 1 (.tmp 3)),g0 19 14 false (.load false 1 (.tmp 18)),g0 20 14 false (.len false (.tmp 19)),g0 21 14 false (.bin false .neq (.tmp 17) (.tmp 20)),o0 22 (.pick (.tmp 14) (.cst (.bool true)) (.tmp 21))]
def A59:List GOp:=[b0 4 false]
def A6a:List GOp:=[f0 23 0 2,l0 24 1 23,e0 25 24,k0 26 0]
def A6b:List GOp:=[p0 27 .lss 26 25]
def A6c:List GOp:=[m0 28 26,m0 5 28]
def A6d:List GOp:=[f0 29 0 2,l0 30 1 29,m0 31 5,i0 32 3 30 31,t0 33 3 32,f0 34 0 3,l0 35 1 34,m0 36 5,i0 37 3 35 36,t0 38 3 37,o0 39 (.eqs true [.i,.s,.i] (.tmp 33) (.tmp 38))]
def A6e:List GOp:=[b0 4 false]
def A6f:List GOp:=[q0 40 .add 26 1,m0 26 40]
def A56:AC:=(.keep [] [(2,false),(3,false),(25,false),(26,false)] [(.loc 2 0,false),(.loc 3 0,false)] [] [] (.seq (.ops A6b) (.seq (.cond (.tmp 27) .skip (.exit 0)) (.seq (.pass 1 (.seq (.ops A6c) (.seq (.draw [] A6d) (.cond (.tmp 39) (.seq (.ops A6e) (.keep [] [(4,false)] [] [.loc 2 0,.loc 3 0] [] .ret)) .skip)))) (.ops A6f)))))
def Aty:List GOp:=[f0 41 1 2,l0 42 1 41,e0 43 42,k0 44 0]
def Atz:List GOp:=[p0 45 .lss 44 43]
def At0:List GOp:=[m0 46 44,m0 6 46]
def At1:List GOp:=[f0 47 1 2,l0 48 1 47,m0 49 6,i0 50 8 48 49,t0 51 8 50,f0 52 1 3,l0 53 1 52,m0 54 6,i0 55 8 53 54,t0 56 8 55,o0 57 (.eqs true [.i,.i,.i,.i,.i,.i,.i,.i] (.tmp 51) (.tmp 56))]
def At2:List GOp:=[b0 4 false]
def At3:List GOp:=[q0 58 .add 44 1,m0 44 58]
def Atx:AC:=(.keep [] [(2,false),(3,false),(43,false),(44,false)] [(.loc 2 0,false),(.loc 3 0,false)] [] [] (.seq (.ops Atz) (.seq (.cond (.tmp 45) .skip (.exit 2)) (.seq (.pass 3 (.seq (.ops At0) (.seq (.draw [] At1) (.cond (.tmp 57) (.seq (.ops At2) (.keep [] [(4,false)] [] [.loc 2 0,.loc 3 0] [] .ret)) .skip)))) (.ops At3)))))
def At4:List GOp:=[b0 4 true]
def Bgr:AC:=(.seq (.ops A57) (.seq (.seq (.ops A58) (.cond (.tmp 22) (.seq (.ops A59) (.keep [] [(4,false)] [] [.loc 2 0,.loc 3 0] [] .ret)) .skip)) (.seq (.seq (.ops A6a) (.block 0 (.loop [2,3,25,26] [] A56))) (.seq (.seq (.keep [] [(2,false),(3,false)] [(.loc 2 0,false),(.loc 3 0,false)] [] [] (.ops Aty)) (.block 2 (.loop [2,3,43,44] [] Atx))) (.seq (.keep [] [] [] [.loc 2 0,.loc 3 0] [] (.ops At4)) (.keep [] [(4,false)] [] [.loc 2 0,.loc 3 0] [] .ret))))))
def Q49:Fd:=⟨2,[.tmp 4],[],Bgr⟩
theorem Atw:Bl Tryz.prog Tryz.f55 Q49=true:=by kernel_rfl
theorem Pf{a1:A4}{b2:A4}{r:Bool}(h:F8 a1 b2=some r):A3 Tryz.prog 55 [.pv (A4.pv a1),.pv (A4.pv b2)] [] ⟨Vb r,[],[]⟩:=by
 refine Ap hm Tryz.func55 Atw (by kernel_rfl) ?_
 unfold F8 at h
 refine Ab Aw ?_
 refine Ae ?_
 obtain⟨c3,hc3,h⟩:=Ag h
 refine Ab (Bw 2 (Aj.dyn (Lw Ac.pv a1.As) (Bw 2 (Aj.dyn (Lw Ac.pv b2.As) (Bw 1 (Aj.dyn (Nw ((a1.As.length:Int)!=(b2.As.length:Int)) c3 hc3) (Aj.puts 2 [(16,(Bf (!c3) (Vl Ad.pv a1.Au))),(15,(Bf (!c3) (.ptr (.loc 2 0) 1)))] (by cases c3<;>kernel_rfl) (Aj.dyn (Bn (!c3) (by kernel_rfl) (by
    cases c3
    ·exact .inr ⟨by kernel_rfl,by kernel_rfl,Lw Ad.pv a1.Au⟩
    ·exact .inl ⟨by kernel_rfl,by kernel_rfl⟩)) (Aj.puts 2 [(19,(Bf (!c3) (Vl Ad.pv b2.Au))),(18,(Bf (!c3) (.ptr (.loc 3 0) 1)))] (by cases c3<;>kernel_rfl) (Aj.dyn (Bn (!c3) (by kernel_rfl) (by
    cases c3
    ·exact .inr ⟨by kernel_rfl,by kernel_rfl,Lw Ad.pv b2.Au⟩
    ·exact .inl ⟨by kernel_rfl,by kernel_rfl⟩)) (Aj.puts 2 [(22,Vb (c3||((a1.Au.length:Int)!=(b2.Au.length:Int)))),(21,(Bf (!c3) (Vb ((a1.Au.length:Int)!=(b2.Au.length:Int)))))] (by cases c3<;>kernel_rfl) ((.nil _))))))))))))) ?_
 refine Ar (t:=(c3||((a1.Au.length:Int)!=(b2.Au.length:Int)))) (by kernel_rfl) h (fun hc h'=>?_) (fun hc h'=>?_)
 ·replace h:=h'
  refine Ae ?_
  refine Ab Aw ?_
  refine An rfl ?_
  cases h
  exact A8 Fw
 ·replace h:=h'
  refine Ay ?_
  refine Ae ?_
  refine Ab (Bw 2 (Aj.dyn (Lw Ac.pv a1.As) Aw)) ?_
  obtain⟨j4,hj4,h⟩:=Ag h
  refine Ck (j:=j4) (o:=r) (fun p σ=>σ.tidy [] [(2,false),(3,false)] [(.loc 2 0,false),(.loc 3 0,false)] [] []=⟨[(2,.ptr (.loc 2 0) 0),(3,.ptr (.loc 3 0) 0)],[(.loc 2 0,.box [Vl Ac.pv a1.As,Vl Ad.pv a1.Au]),(.loc 3 0,.box [Vl Ac.pv b2.As,Vl Ad.pv b2.Au])]⟩) ?_ (fun p σj4 hp hsj4=>?_) (fun p hp=>?_)
  ·refine B1 (fun q σ=>((σ.forget [2,3,25,26]).killAll []).tidy [] [(2,false),(3,false),(25,false),(26,false)] [(.loc 2 0,false),(.loc 3 0,false)] [] []=⟨[(2,.ptr (.loc 2 0) 0),(3,.ptr (.loc 3 0) 0),(25,Vi (a1.As.length:Int)),(26,Vi q)],[(.loc 2 0,.box [Vl Ac.pv a1.As,Vl Ad.pv a1.Au]),(.loc 3 0,.box [Vl Ac.pv b2.As,Vl Ad.pv b2.Au])]⟩) hj4 ?_ ?_
   ·show _=_
    kernel_rfl
   ·intro x5 σj4 oj4 hJj4 h
    refine W.keep hJj4 ?_
    refine Ab Aw ?_
    refine Ar (t:=decide (x5<(a1.As.length:Int))) (by kernel_rfl) h (fun hc h'=>?_) (fun hc h'=>?_)
    ·replace h:=h'
     refine Ay ?_
     refine Bs ?_
     refine Ae ?_
     refine Ab Aw ?_
     refine Ae ?_
     obtain⟨x6,hx6,h⟩:=Ag h
     obtain⟨x7,hx7,h⟩:=Ag h
     refine Bx Ax (Dw 3 (Run.dyn (Iw Ac.pv a1.As x5 x6 hx6) (Dw 4 (Run.dyn (Iw Ac.pv b2.As x5 x7 hx7) Cw)))) ?_
     refine Ar (t:= !(Ac.same x6 x7)) (by kernel_rfl) h (fun hc h'=>?_) (fun hc h'=>?_)
     ·replace h:=h'
      refine Ae ?_
      refine Ab Aw ?_
      refine An rfl ?_
      cases h
      exact A8 ((Bh Cd (Ed Cd Dh (fun e=>by subst e;exact Fw))))
     ·replace h:=h'
      refine Ay ?_
      refine W.ops Aw ?_
      cases h
      exact Ow
    ·replace h:=h'
     cases h
     exact Bp ((Bh B6 (Eh (by(show _=_);kernel_rfl))))
  ·subst hp
   obtain⟨⟩:=p
   refine Ae ?_
   refine An hsj4 ?_
   refine Ab (Bw 2 (Aj.dyn (Lw Ad.pv a1.Au) Aw)) ?_
   obtain⟨j8,hj8,h⟩:=Ag h
   refine Ck (j:=j8) (o:=r) (fun p σ=>σ.tidy [] [] [] [.loc 2 0,.loc 3 0] []=⟨[],[]⟩) ?_ (fun p σj8 hp hsj8=>?_) (fun p hp=>?_)
   ·refine B1 (fun q σ=>((σ.forget [2,3,43,44]).killAll []).tidy [] [(2,false),(3,false),(43,false),(44,false)] [(.loc 2 0,false),(.loc 3 0,false)] [] []=⟨[(2,.ptr (.loc 2 0) 0),(3,.ptr (.loc 3 0) 0),(43,Vi (a1.Au.length:Int)),(44,Vi q)],[(.loc 2 0,.box [Vl Ac.pv a1.As,Vl Ad.pv a1.Au]),(.loc 3 0,.box [Vl Ac.pv b2.As,Vl Ad.pv b2.Au])]⟩) hj8 ?_ ?_
    ·show _=_
     kernel_rfl
    ·intro x9 σj8 oj8 hJj8 h
     refine W.keep hJj8 ?_
     refine Ab Aw ?_
     refine Ar (t:=decide (x9<(a1.Au.length:Int))) (by kernel_rfl) h (fun hc h'=>?_) (fun hc h'=>?_)
     ·replace h:=h'
      refine Ay ?_
      refine Bs ?_
      refine Ae ?_
      refine Ab Aw ?_
      refine Ae ?_
      obtain⟨x10,hx10,h⟩:=Ag h
      obtain⟨x11,hx11,h⟩:=Ag h
      refine Bx Ax (Dw 3 (Run.dyn (Iw Ad.pv a1.Au x9 x10 hx10) (Dw 4 (Run.dyn (Iw Ad.pv b2.Au x9 x11 hx11) Cw)))) ?_
      refine Ar (t:= !(Ad.same x10 x11)) (by kernel_rfl) h (fun hc h'=>?_) (fun hc h'=>?_)
      ·replace h:=h'
       refine Ae ?_
       refine Ab Aw ?_
       refine An rfl ?_
       cases h
       exact A8 ((Bh Cd (Ed Cd Dh (fun e=>by subst e;exact Fw))))
      ·replace h:=h'
       refine Ay ?_
       refine W.ops Aw ?_
       cases h
       exact Ow
     ·replace h:=h'
      cases h
      exact Bp ((Bh B6 (Eh (by(show _=_);kernel_rfl))))
   ·subst hp
    obtain⟨⟩:=p
    refine An hsj8 ?_
    refine Ab Aw ?_
    refine W.keep rfl ?_
    cases h
    exact W.ret Fw
   ·subst hp
    exact Option.some.inj h
  ·subst hp
   exact Option.some.inj h
def A6i:List GOp:=[b0 4 false]
def A6j:List GOp:=[m0 6 0,e0 7 6,m0 8 1,e0 9 8,p0 10 .neq 7 9]
def A6k:List GOp:=[b0 4 false]
def A6l:List GOp:=[k0 5 0]
def A6m:List GOp:=[m0 11 5,m0 12 0,e0 13 12,p0 14 .lss 11 13]
def A6n:List GOp:=[m0 17 0,m0 18 5,i0 19 9 17 18,t0 20 9 19,m0 21 1,m0 22 5,i0 23 9 21 22,t0 24 9 23,o0 25 (.eqs true [.i,.i,.i,.i,.i,.i,.i,.i,.b] (.tmp 20) (.tmp 24))]
def A6o:List GOp:=[b0 4 false]
def A6p:List GOp:=[m0 15 5,q0 16 .add 15 1,m0 5 16]
def A6h:AC:=(.keep [] [(0,false),(1,false),(5,false)] [] [] [] (.seq (.seq (.ops A6m) (.cond (.tmp 14) .skip (.exit 0))) (.seq (.pass 1 (.seq (.draw [] A6n) (.cond (.tmp 25) (.seq (.ops A6o) (.keep [] [(4,false)] [] [] [] .ret)) .skip))) (.ops A6p))))
def A6q:List GOp:=[b0 4 true]
def Bg1:AC:=(.seq (.ops A6i) (.seq (.seq (.ops A6j) (.cond (.tmp 10) (.seq (.ops A6k) (.keep [] [(4,false)] [] [] [] .ret)) .skip)) (.seq (.seq (.ops A6l) (.block 0 (.loop [0,1,5] [] A6h))) (.seq (.keep [] [] [] [] [] (.ops A6q)) (.keep [] [(4,false)] [] [] [] .ret)))))
def Q50:Fd:=⟨2,[.tmp 4],[],Bg1⟩
theorem At5:Bl Tryz.prog Tryz.f56 Q50=true:=by kernel_rfl
theorem Pg{a1:List Aa}{b2:List Aa}{r:Bool}(h:F9 a1 b2=some r):A3 Tryz.prog 56 [Vl Aa.pv a1,Vl Aa.pv b2] [] ⟨Vb r,[],[]⟩:=by
 refine Ap hm Tryz.func56 At5 (by kernel_rfl) ?_
 unfold F9 at h
 refine Ab Aw ?_
 refine Ae ?_
 refine Ab (Bw 1 (Aj.dyn (Lw Aa.pv a1) (Bw 1 (Aj.dyn (Lw Aa.pv b2) Aw)))) ?_
 refine Ar (t:=((a1.length:Int)!=(b2.length:Int))) (by kernel_rfl) h (fun hc h'=>?_) (fun hc h'=>?_)
 ·replace h:=h'
  refine Ae ?_
  refine Ab Aw ?_
  refine An rfl ?_
  cases h
  exact A8 Fw
 ·replace h:=h'
  refine Ay ?_
  refine Ae ?_
  refine Ab Aw ?_
  obtain⟨j3,hj3,h⟩:=Ag h
  refine Ck (j:=j3) (o:=r) (fun p σ=>σ.tidy [] [] [] [] []=⟨[],[]⟩) ?_ (fun p σj3 hp hsj3=>?_) (fun p hp=>?_)
  ·refine B1 (fun q σ=>((σ.forget [0,1,5]).killAll []).tidy [] [(0,false),(1,false),(5,false)] [] [] []=⟨[(0,Vl Aa.pv a1),(1,Vl Aa.pv b2),(5,Vi q)],[]⟩) hj3 ?_ ?_
   ·show _=_
    kernel_rfl
   ·intro i4 σj3 oj3 hJj3 h
    refine W.keep hJj3 ?_
    refine Ae ?_
    refine Ab (Bw 2 (Aj.dyn (Lw Aa.pv a1) Aw)) ?_
    refine Ar (t:=decide (i4<(a1.length:Int))) (by kernel_rfl) h (fun hc h'=>?_) (fun hc h'=>?_)
    ·replace h:=h'
     refine Ay ?_
     refine Bs ?_
     refine Ae ?_
     obtain⟨x5,hx5,h⟩:=Ag h
     obtain⟨x6,hx6,h⟩:=Ag h
     refine Bx Ax (Dw 2 (Run.dyn (Iw Aa.pv a1 i4 x5 hx5) (Dw 3 (Run.dyn (Iw Aa.pv b2 i4 x6 hx6) Cw)))) ?_
     refine Ar (t:= !(Aa.same x5 x6)) (by kernel_rfl) h (fun hc h'=>?_) (fun hc h'=>?_)
     ·replace h:=h'
      refine Ae ?_
      refine Ab Aw ?_
      refine An rfl ?_
      cases h
      exact A8 ((Bh Cd (Ed Cd Dh (fun e=>by subst e;exact Fw))))
     ·replace h:=h'
      refine Ay ?_
      refine W.ops Aw ?_
      cases h
      exact Ow
    ·replace h:=h'
     cases h
     exact Bp ((Bh B6 (Eh (by(show _=_);kernel_rfl))))
  ·subst hp
   obtain⟨⟩:=p
   refine An hsj3 ?_
   refine Ab Aw ?_
   refine W.keep rfl ?_
   cases h
   exact W.ret Fw
  ·subst hp
   exact Option.some.inj h
def A6s:List GOp:=[o0 2 (.box (.tmp 0)),o0 3 (.box (.tmp 1)),b0 4 false]
def A6t:List GOp:=[f0 6 0 2,t0 7 2 6,f0 8 0 3,t0 9 2 8,o0 10 (.call 0 0 (.cst (.fn 55)) [(.tmp 7),(.tmp 9)] [] []),o0 11 (.un .not (.tmp 10)),m0 12 11,g0 13 12 false (.fld 2 (.tmp 2)),g0 14 12 false (.load false 1 (.tmp 13)),g0 15 12 false (.len false (.tmp 14)),g0 16 12 false (.fld 2 (.tmp 3)),g0 17 12 false (.load false 1 (.tmp 16)),g0 18 12 false (.len false (.tmp 17)),g0 19 12 false (.bin false .neq (.tmp 15) (.tmp 18)),o0 20 (.pick (.tmp 12) (.cst (.bool true)) (.tmp 19)),m0 21 20,g0 22 21 false (.fld 3 (.tmp 2)),g0 23 21 false (.load false 1 (.tmp 22)),g0 24 21 false (.fld 3 (.tmp 3)),g0 25 21 false (.load false 1 (.tmp 24)),g0 26 21 false (.call 0 0 (.cst (.fn 56)) [(.tmp 23),(.tmp 25)] [] []),g0 27 21 false (.un .not (.tmp 26)),o0 28 (.pick (.tmp 21) (.cst (.bool true)) (.tmp 27)),m0 29 28,g0 30 29 false (.fld 4 (.tmp 2)),g0 31 29 false (.load false 1 (.tmp 30)),g0 32 29 false (.len false (.tmp 31)),g0 33 29 false (.fld 4 (.tmp 3)),g0 34 29 false (.load false 1 (.tmp 33)),g0 35 29 false (.len false (.tmp 34)),g0 36 29 false (.bin false .neq (.tmp 32) (.tmp 35)),o0 37 (.pick (.tmp 29) (.cst (.bool true)) (.tmp 36))]
def A6u:List GOp:=[b0 4 false]
def A6v:List GOp:=[f0 38 4 2,l0 39 1 38,e0 40 39,k0 41 0]
def A6w:List GOp:=[p0 42 .lss 41 40]
def A6x:List GOp:=[m0 43 41,m0 5 43]
def A6y:List GOp:=[f0 44 4 2,l0 45 1 44,m0 46 5,i0 47 2 45 46,t0 48 2 47,f0 49 4 3,l0 50 1 49,m0 51 5,i0 52 2 50 51,t0 53 2 52,o0 54 (.eqs true [.i,.i] (.tmp 48) (.tmp 53))]
def A6z:List GOp:=[b0 4 false]
def A60:List GOp:=[q0 55 .add 41 1,m0 41 55]
def A6r:AC:=(.keep [] [(2,false),(3,false),(40,false),(41,false)] [(.loc 2 0,false),(.loc 3 0,false)] [] [] (.seq (.ops A6w) (.seq (.cond (.tmp 42) .skip (.exit 0)) (.seq (.pass 1 (.seq (.ops A6x) (.seq (.draw [] A6y) (.cond (.tmp 54) (.seq (.ops A6z) (.keep [] [(4,false)] [] [.loc 2 0,.loc 3 0] [] .ret)) .skip)))) (.ops A60)))))
def At7:List GOp:=[b0 4 true]
def Bg2:AC:=(.seq (.ops A6s) (.seq (.seq (.ops A6t) (.cond (.tmp 37) (.seq (.ops A6u) (.keep [] [(4,false)] [] [.loc 2 0,.loc 3 0] [] .ret)) .skip)) (.seq (.seq (.ops A6v) (.block 0 (.loop [2,3,40,41] [] A6r))) (.seq (.keep [] [] [] [.loc 2 0,.loc 3 0] [] (.ops At7)) (.keep [] [(4,false)] [] [.loc 2 0,.loc 3 0] [] .ret)))))
def Q51:Fd:=⟨2,[.tmp 4],[],Bg2⟩
theorem At6:Bl Tryz.prog Tryz.f21 Q51=true:=by kernel_rfl
theorem Db{a1:Ah}{b2:Ah}{r:Bool}(h:B2 a1 b2=some r):A3 Tryz.prog 21 [.pv (Ah.pv a1),.pv (Ah.pv b2)] [] ⟨Vb r,[],[]⟩:=by
 refine Ap hm Tryz.func21 At6 (by kernel_rfl) ?_
 unfold B2 at h
 refine Ab Aw ?_
 refine Ae ?_
 obtain⟨x3,hx3,h⟩:=Ag h
 obtain⟨c4,hc4,h⟩:=Ag h
 obtain⟨c5,hc5,h⟩:=Ag h
 obtain⟨x6,hx6,h⟩:=Ag h
 obtain⟨c7,hc7,h⟩:=Ag h
 refine Ab (Bw 4 (Aj.cons (Tw (Pf hx3) Ax) (Kw 55 [] (Vb x3) Hw) (Bw 1 (Aj.dyn (Nw (!x3) c4 hc4) (Aj.puts 2 [(14,(Bf (!c4) (Vl Af.pv a1.Fl))),(13,(Bf (!c4) (.ptr (.loc 2 0) 2)))] (by cases c4<;>kernel_rfl) (Aj.dyn (Bn (!c4) (by kernel_rfl) (by
    cases c4
    ·exact .inr ⟨by kernel_rfl,by kernel_rfl,Lw Af.pv a1.Fl⟩
    ·exact .inl ⟨by kernel_rfl,by kernel_rfl⟩)) (Aj.puts 2 [(17,(Bf (!c4) (Vl Af.pv b2.Fl))),(16,(Bf (!c4) (.ptr (.loc 3 0) 2)))] (by cases c4<;>kernel_rfl) (Aj.dyn (Bn (!c4) (by kernel_rfl) (by
    cases c4
    ·exact .inr ⟨by kernel_rfl,by kernel_rfl,Lw Af.pv b2.Fl⟩
    ·exact .inl ⟨by kernel_rfl,by kernel_rfl⟩)) (Aj.puts 2 [(20,Vb (c4||((a1.Fl.length:Int)!=(b2.Fl.length:Int)))),(19,(Bf (!c4) (Vb ((a1.Fl.length:Int)!=(b2.Fl.length:Int)))))] (by cases c4<;>kernel_rfl) (Aj.dyn (Nw (c4||((a1.Fl.length:Int)!=(b2.Fl.length:Int))) c5 hc5) (Aj.puts 4 [(25,(Bf (!c5) (Vl Aa.pv b2.A7))),(24,(Bf (!c5) (.ptr (.loc 3 0) 3))),(23,(Bf (!c5) (Vl Aa.pv a1.A7))),(22,(Bf (!c5) (.ptr (.loc 2 0) 3)))] (by cases c5<;>kernel_rfl) (Aj.cons (Ci (on:=(!c5)) (fun hg=>Pg (Dj hg hx6)) Ax) (Bn (!c5) (by kernel_rfl) (by
    cases c5
    ·exact .inr ⟨by kernel_rfl,by kernel_rfl,Kw 56 [] (Vb x6) Hw⟩
    ·exact .inl ⟨by kernel_rfl,by kernel_rfl⟩)) (Aj.puts 2 [(28,Vb (c5||(!x6))),(27,(Bf (!c5) (Vb (!x6))))] (by cases c5<;>kernel_rfl) (Aj.dyn (Nw (c5||(!x6)) c7 hc7) (Aj.puts 2 [(31,(Bf (!c7) (Vl Al.pv a1.A6))),(30,(Bf (!c7) (.ptr (.loc 2 0) 4)))] (by cases c7<;>kernel_rfl) (Aj.dyn (Bn (!c7) (by kernel_rfl) (by
    cases c7
    ·exact .inr ⟨by kernel_rfl,by kernel_rfl,Lw Al.pv a1.A6⟩
    ·exact .inl ⟨by kernel_rfl,by kernel_rfl⟩)) (Aj.puts 2 [(34,(Bf (!c7) (Vl Al.pv b2.A6))),(33,(Bf (!c7) (.ptr (.loc 3 0) 4)))] (by cases c7<;>kernel_rfl) (Aj.dyn (Bn (!c7) (by kernel_rfl) (by
    cases c7
    ·exact .inr ⟨by kernel_rfl,by kernel_rfl,Lw Al.pv b2.A6⟩
    ·exact .inl ⟨by kernel_rfl,by kernel_rfl⟩)) (Aj.puts 2 [(37,Vb (c7||((a1.A6.length:Int)!=(b2.A6.length:Int)))),(36,(Bf (!c7) (Vb ((a1.A6.length:Int)!=(b2.A6.length:Int)))))] (by cases c7<;>kernel_rfl) ((.nil _))))))))))))))))))))) ?_
 refine Ar (t:=(c7||((a1.A6.length:Int)!=(b2.A6.length:Int)))) (by kernel_rfl) h (fun hc h'=>?_) (fun hc h'=>?_)
 ·replace h:=h'
  refine Ae ?_
  refine Ab Aw ?_
  refine An rfl ?_
  cases h
  exact A8 Fw
 ·replace h:=h'
  refine Ay ?_
  refine Ae ?_
  refine Ab (Bw 2 (Aj.dyn (Lw Al.pv a1.A6) Aw)) ?_
  obtain⟨j8,hj8,h⟩:=Ag h
  refine Ck (j:=j8) (o:=r) (fun p σ=>σ.tidy [] [] [] [.loc 2 0,.loc 3 0] []=⟨[],[]⟩) ?_ (fun p σj8 hp hsj8=>?_) (fun p hp=>?_)
  ·refine B1 (fun q σ=>((σ.forget [2,3,40,41]).killAll []).tidy [] [(2,false),(3,false),(40,false),(41,false)] [(.loc 2 0,false),(.loc 3 0,false)] [] []=⟨[(2,.ptr (.loc 2 0) 0),(3,.ptr (.loc 3 0) 0),(40,Vi (a1.A6.length:Int)),(41,Vi q)],[(.loc 2 0,.box [Vl Ac.pv a1.Bk.As,Vl Ad.pv a1.Bk.Au,Vl Af.pv a1.Fl,Vl Aa.pv a1.A7,Vl Al.pv a1.A6]),(.loc 3 0,.box [Vl Ac.pv b2.Bk.As,Vl Ad.pv b2.Bk.Au,Vl Af.pv b2.Fl,Vl Aa.pv b2.A7,Vl Al.pv b2.A6])]⟩) hj8 ?_ ?_
   ·show _=_
    kernel_rfl
   ·intro x9 σj8 oj8 hJj8 h
    refine W.keep hJj8 ?_
    refine Ab Aw ?_
    refine Ar (t:=decide (x9<(a1.A6.length:Int))) (by kernel_rfl) h (fun hc h'=>?_) (fun hc h'=>?_)
    ·replace h:=h'
     refine Ay ?_
     refine Bs ?_
     refine Ae ?_
     refine Ab Aw ?_
     refine Ae ?_
     obtain⟨x10,hx10,h⟩:=Ag h
     obtain⟨x11,hx11,h⟩:=Ag h
     refine Bx Ax (Dw 3 (Run.dyn (Iw Al.pv a1.A6 x9 x10 hx10) (Dw 4 (Run.dyn (Iw Al.pv b2.A6 x9 x11 hx11) Cw)))) ?_
     refine Ar (t:= !(Al.same x10 x11)) (by kernel_rfl) h (fun hc h'=>?_) (fun hc h'=>?_)
     ·replace h:=h'
      refine Ae ?_
      refine Ab Aw ?_
      refine An rfl ?_
      cases h
      exact A8 ((Bh Cd (Ed Cd Dh (fun e=>by subst e;exact Fw))))
     ·replace h:=h'
      refine Ay ?_
      refine W.ops Aw ?_
      cases h
      exact Ow
    ·replace h:=h'
     cases h
     exact Bp ((Bh B6 (Eh (by(show _=_);kernel_rfl))))
  ·subst hp
   obtain⟨⟩:=p
   refine An hsj8 ?_
   refine Ab Aw ?_
   refine W.keep rfl ?_
   cases h
   exact W.ret Fw
  ·subst hp
   exact Option.some.inj h
def A62:List GOp:=[k0 4 0]
def A63:List GOp:=[k0 5 0]
def A64:List GOp:=[m0 6 5,m0 7 0,e0 8 7,p0 9 .lss 6 8]
def A65:List GOp:=[m0 12 0,m0 13 5,i0 14 9 12 13,f0 15 0 14,l0 16 1 15,m0 17 1,p0 18 .eql 16 17]
def A66:List GOp:=[m0 19 5,m0 4 19]
def A67:List GOp:=[m0 10 5,q0 11 .add 10 1,m0 5 11]
def A61:AC:=(.keep [] [(0,false),(1,false),(5,false)] [] [] [] (.seq (.seq (.ops A64) (.cond (.tmp 9) .skip (.exit 0))) (.seq (.pass 1 (.seq (.ops A65) (.cond (.tmp 18) (.seq (.ops A66) (.keep [] [(4,false)] [] [] [] .ret)) .skip))) (.ops A67))))
def A68:List GOp:=[k0 4 (-1)]
def Bg3:AC:=(.seq (.ops A62) (.seq (.seq (.ops A63) (.block 0 (.loop [0,1,5] [] A61))) (.seq (.keep [] [] [] [] [] (.ops A68)) (.keep [] [(4,false)] [] [] [] .ret))))
def Q52:Fd:=⟨2,[.tmp 4],[],Bg3⟩
theorem At8:Bl Tryz.prog Tryz.f58 Q52=true:=by kernel_rfl
theorem J6{l1:List Aa}{id2:Int}{r:Int}(h:Dz l1 id2=some r):A3 Tryz.prog 58 [Vl Aa.pv l1,Vi id2] [] ⟨Vi r,[],[]⟩:=by
 refine Ap hm Tryz.func58 At8 (by kernel_rfl) ?_
 unfold Dz at h
 refine Ab Aw ?_
 refine Ae ?_
 refine Ab Aw ?_
 obtain⟨j3,hj3,h⟩:=Ag h
 refine Ck (j:=j3) (o:=r) (fun p σ=>σ.tidy [] [] [] [] []=⟨[],[]⟩) ?_ (fun p σj3 hp hsj3=>?_) (fun p hp=>?_)
 ·refine B1 (fun q σ=>((σ.forget [0,1,5]).killAll []).tidy [] [(0,false),(1,false),(5,false)] [] [] []=⟨[(0,Vl Aa.pv l1),(1,Vi id2),(5,Vi q)],[]⟩) hj3 ?_ ?_
  ·show _=_
   kernel_rfl
  ·intro i4 σj3 oj3 hJj3 h
   refine W.keep hJj3 ?_
   refine Ae ?_
   refine Ab (Bw 2 (Aj.dyn (Lw Aa.pv l1) Aw)) ?_
   refine Ar (t:=decide (i4<(l1.length:Int))) (by kernel_rfl) h (fun hc h'=>?_) (fun hc h'=>?_)
   ·replace h:=h'
    refine Ay ?_
    refine Bs ?_
    refine Ae ?_
    obtain⟨x5,hx5,h⟩:=Ag h
    refine Ab (Bw 2 (Aj.dyn (Iw Aa.pv l1 i4 x5 hx5) Aw)) ?_
    refine Ar (t:=(x5.Bc==id2)) (by kernel_rfl) h (fun hc h'=>?_) (fun hc h'=>?_)
    ·replace h:=h'
     refine Ae ?_
     refine Ab Aw ?_
     refine An rfl ?_
     cases h
     exact A8 ((Bh Cd (Ed Cd Dh (fun e=>by subst e;exact Fw))))
    ·replace h:=h'
     refine Ay ?_
     refine W.ops Aw ?_
     cases h
     exact Ow
   ·replace h:=h'
    cases h
    exact Bp ((Bh B6 (Eh (by(show _=_);kernel_rfl))))
 ·subst hp
  obtain⟨⟩:=p
  refine An hsj3 ?_
  refine Ab Aw ?_
  refine W.keep rfl ?_
  cases h
  exact W.ret Fw
 ·subst hp
  exact Option.some.inj h
def A85:List GOp:=[o0 3 (.box (.tmp 1)),o0 4 (.mov .nils),k0 5 0]
def A86:List GOp:=[t0 10 9 3,o0 11 (.call 0 0 (.cst (.fn 57)) [(.tmp 10)] [] []),m0 6 11]
def A87:List GOp:=[m0 12 6,o0 13 (.un .not (.tmp 12)),m0 14 13,g0 15 14 false (.fld 7 (.tmp 3)),g0 16 14 false (.load false 1 (.tmp 15)),g0 17 14 false (.bin false .neq (.tmp 16) (.cst (.int .i64 0))),o0 18 (.pick (.tmp 14) (.cst (.bool true)) (.tmp 17)),m0 19 18,g0 20 19 false (.fld 8 (.tmp 3)),g0 21 19 false (.load false 1 (.tmp 20)),o0 22 (.pick (.tmp 19) (.cst (.bool true)) (.tmp 21))]
def A88:List GOp:=[o0 4 (.mov .nils),k0 5 1]
def A89:List GOp:=[m0 23 0,f0 24 0 3,l0 25 1 24,o0 26 (.call 0 0 (.cst (.fn 58)) [(.tmp 23),(.tmp 25)] [] []),q0 27 .geq 26 0]
def A9a:List GOp:=[o0 4 (.mov .nils),k0 5 26]
def A9b:List GOp:=[m0 28 0,e0 29 28,q0 30 .add 29 1,q0 31 .gtr 30 200]
def A9c:List GOp:=[o0 4 (.mov .nils),k0 5 6]
def A9d:List GOp:=[o0 7 (.mov .nils)]
def A9e:List GOp:=[b0 8 false]
def Auz:List GOp:=[k0 9 0]
def Au0:List GOp:=[m0 32 9,m0 33 0,e0 34 33,p0 35 .lss 32 34]
def Au1:List GOp:=[m0 38 8,o0 39 (.un .not (.tmp 38)),m0 40 39,g0 41 40 true (.mov (.tmp 0)),g0 42 40 true (.mov (.tmp 9)),g0 43 40 true (.idx 9 (.tmp 41) (.tmp 42)),g0 44 40 true (.fld 0 (.tmp 43)),g0 45 40 true (.load false 1 (.tmp 44)),g0 46 40 true (.fld 0 (.tmp 3)),g0 47 40 true (.load false 1 (.tmp 46)),g0 48 40 true (.bin false .gtr (.tmp 45) (.tmp 47)),o0 49 (.pick (.tmp 40) (.tmp 48) (.cst (.bool false)))]
def Au2:List GOp:=[m0 50 7,t0 51 9 3,o0 52 (.lit false 9 [(.tmp 51)]),o0 53 (.append 7 9 64 (.tmp 50) (.tmp 52)),m0 7 53]
def Au3:List GOp:=[b0 8 true]
def Au4:List GOp:=[m0 54 7,m0 55 0,m0 56 9,i0 57 9 55 56,t0 58 9 57,o0 59 (.lit false 9 [(.tmp 58)]),o0 60 (.append 7 9 64 (.tmp 54) (.tmp 59)),m0 7 60]
def Au5:List GOp:=[m0 36 9,q0 37 .add 36 1,m0 9 37]
def Auy:AC:=(.keep [] [(0,false),(3,false),(7,false),(8,false),(9,false)] [(.loc 7 0,false),(.loc 3 0,false)] [] [.slot 7 (.loc 7 0) 9] (.seq (.seq (.ops Au0) (.cond (.tmp 35) .skip (.exit 0))) (.seq (.pass 1 (.seq (.seq (.draw [] Au1) (.cond (.tmp 49) (.seq (.ops Au2) (.ops Au3)) .skip)) (.keep [] [(0,false),(3,false),(7,false),(8,false),(9,false)] [(.loc 7 0,false),(.loc 3 0,false)] [] [] (.ops Au4)))) (.ops Au5))))
def Au6:List GOp:=[m0 61 8,o0 62 (.un .not (.tmp 61))]
def Au7:List GOp:=[m0 63 7,t0 64 9 3,o0 65 (.lit false 9 [(.tmp 64)]),o0 66 (.append 7 9 64 (.tmp 63) (.tmp 65)),m0 7 66]
def Au8:List GOp:=[m0 67 7,m0 4 67,k0 5 0]
def Bhj:AC:=(.seq (.ops A85) (.seq (.ops A86) (.seq (.seq (.ops A87) (.cond (.tmp 22) (.seq (.ops A88) (.keep [] [(4,true),(5,false)] [] [.loc 3 0] [] .ret)) .skip)) (.seq (.seq (.ops A89) (.cond (.tmp 27) (.seq (.ops A9a) (.keep [] [(4,true),(5,false)] [] [.loc 3 0] [] .ret)) .skip)) (.seq (.seq (.ops A9b) (.cond (.tmp 31) (.seq (.ops A9c) (.keep [] [(4,true),(5,false)] [] [.loc 3 0] [] .ret)) .skip)) (.seq (.ops A9d) (.seq (.ops A9e) (.seq (.seq (.ops Auz) (.block 0 (.loop [0,3,7,8,9] [] Auy))) (.seq (.seq (.keep [] [(3,false),(7,false),(8,false)] [(.loc 7 0,false),(.loc 3 0,false)] [] [] (.ops Au6)) (.cond (.tmp 62) (.ops Au7) .skip)) (.seq (.keep [.loc 7 0] [(7,true)] [] [.loc 3 0] [] (.ops Au8)) (.keep [] [(4,true),(5,false)] [] [.loc 3 0] [] .ret)))))))))))
def Q66:Fd:=⟨2,[.tmp 4,.tmp 5],[],Bhj⟩
theorem Aux:Bl Tryz.prog Tryz.f22 Q66=true:=by kernel_rfl
theorem Px{l1:List Aa}{h2:Aa}{r:(List Aa)×Int}(h:Gq l1 h2=some r):A3 Tryz.prog 22 [Vl Aa.pv l1,.pv (Aa.pv h2)] [] ⟨.tup [Vl Aa.pv r.1,Vi r.2],[],[]⟩:=by
 refine Ap hm Tryz.func22 Aux (by kernel_rfl) ?_
 unfold Gq at h
 refine Ab Aw ?_
 obtain⟨x3,hx3,h⟩:=Ag h
 refine Ab (Bw 1 (Aj.cons (Tw (Hl hx3) Ax) (Kw 57 [] (Vb x3) Hw) Aw)) ?_
 refine Ae ?_
 obtain⟨c4,hc4,h⟩:=Ag h
 obtain⟨c5,hc5,h⟩:=Ag h
 refine Ab (Bw 2 (Aj.dyn (Nw (!x3) c4 hc4) (Aj.puts 4 [(18,Vb (c4||(h2.Bo !=0))),(17,(Bf (!c4) (Vb (h2.Bo !=0)))),(16,(Bf (!c4) (Vi h2.Bo))),(15,(Bf (!c4) (.ptr (.loc 3 0) 7)))] (by cases c4<;>kernel_rfl) (Aj.dyn (Nw (c4||(h2.Bo !=0)) c5 hc5) (Aj.puts 3 [(22,Vb (c5||h2.C4)),(21,(Bf (!c5) (Vb h2.C4))),(20,(Bf (!c5) (.ptr (.loc 3 0) 8)))] (by cases c5<;>kernel_rfl) ((.nil _))))))) ?_
 refine Ar (t:=(c5||h2.C4)) (by kernel_rfl) h (fun hc h'=>?_) (fun hc h'=>?_)
 ·replace h:=h'
  refine Ae ?_
  refine Ab Aw ?_
  refine An rfl ?_
  cases h
  exact A8 Fw
 ·replace h:=h'
  refine Ay ?_
  refine Ae ?_
  obtain⟨x6,hx6,h⟩:=Ag h
  refine Ab (Bw 3 (Aj.cons (Tw (J6 hx6) Ax) (Kw 58 [] (Vi x6) Hw) Aw)) ?_
  refine Ar (t:=decide (x6≥0)) (by kernel_rfl) h (fun hc h'=>?_) (fun hc h'=>?_)
  ·replace h:=h'
   refine Ae ?_
   refine Ab Aw ?_
   refine An rfl ?_
   cases h
   exact A8 Fw
  ·replace h:=h'
   refine Ay ?_
   refine Ae ?_
   refine Ab (Bw 1 (Aj.dyn (Lw Aa.pv l1) Aw)) ?_
   refine Ar (t:=decide ((IntKind.wrap .i64 ((l1.length:Int)+1))>200)) (by kernel_rfl) h (fun hc h'=>?_) (fun hc h'=>?_)
   ·replace h:=h'
    refine Ae ?_
    refine Ab Aw ?_
    refine An rfl ?_
    cases h
    exact A8 Fw
   ·replace h:=h'
    refine Ay ?_
    refine Ab Aw ?_
    refine Ab Aw ?_
    refine Ae ?_
    refine Ab Aw ?_
    obtain⟨j7,hj7,h⟩:=Ag h
    refine W.join (j:=j7) (fun p σ=>σ.tidy [] [(3,false),(7,false),(8,false)] [(.loc 7 0,false),(.loc 3 0,false)] [] []=⟨[(3,.ptr (.loc 3 0) 0),(7,.own (.loc 7 0)),(8,Vb p.1)],[(.loc 7 0,.row 9 (List.map Aa.pv p.2)),(.loc 3 0,.box [Vi h2.Bc,Vi h2.Az,Vi h2.Ak.Bb,Vi h2.Ak.Ao,Vi h2.A9,.pv (.int .i32 h2.B5),.pv (.int .i32 h2.Cb),Vi h2.Bo,Vb h2.C4])]⟩) ?_ (fun σj7 hsj7=>?_)
    ·refine Ch (fun q σ=>((σ.forget [0,3,7,8,9]).killAll []).tidy [] [(0,false),(3,false),(7,false),(8,false),(9,false)] [(.loc 7 0,false),(.loc 3 0,false)] [] [.slot 7 (.loc 7 0) 9]=⟨[(0,Vl Aa.pv l1),(3,.ptr (.loc 3 0) 0),(7,.own (.loc 7 0)),(8,Vb q.1),(9,Vi q.2.1)],[(.loc 7 0,.row 9 (List.map Aa.pv q.2.2)),(.loc 3 0,.box [Vi h2.Bc,Vi h2.Az,Vi h2.Ak.Bb,Vi h2.Ak.Ao,Vi h2.A9,.pv (.int .i32 h2.B5),.pv (.int .i32 h2.Cb),Vi h2.Bo,Vb h2.C4])]⟩) hj7 ?_ ?_
     ·show _=_
      kernel_rfl
     ·intro q σj7 oj7 hJj7 h
      obtain⟨done8,i9,row10⟩:=q
      refine W.keep hJj7 ?_
      refine Ae ?_
      refine Ab (Bw 2 (Aj.dyn (Lw Aa.pv l1) Aw)) ?_
      refine Ar (t:=decide (i9<(l1.length:Int))) (by kernel_rfl) h (fun hc h'=>?_) (fun hc h'=>?_)
      ·replace h:=h'
       refine Ay ?_
       refine Bs ?_
       refine Ae ?_
       refine Ae ?_
       obtain⟨c11,hc11,h⟩:=Ag h
       obtain⟨x12,hx12,h⟩:=Ag h
       refine Bx Ax (Dw 2 (Run.dyn (Nw (!done8) c11 hc11) (Run.puts 2 [(42,(Bf c11 (Vi i9))),(41,(Bf c11 (Vl Aa.pv l1)))] (by cases c11<;>kernel_rfl) (Run.dyn (Bn c11 (by kernel_rfl) (by
          cases c11
          ·exact .inl ⟨by kernel_rfl,by kernel_rfl⟩
          ·exact .inr ⟨by kernel_rfl,by kernel_rfl,Iw Aa.pv l1 i9 x12 hx12⟩)) (Run.puts 6 [(49,Vb (c11&&(decide (x12.Bc>h2.Bc)))),(48,(Bf c11 (Vb (decide (x12.Bc>h2.Bc))))),(47,(Bf c11 (Vi h2.Bc))),(46,(Bf c11 (.ptr (.loc 3 0) 0))),(45,(Bf c11 (Vi x12.Bc))),(44,(Bf c11 (.ipv (Aa.pv x12) 0)))] (by cases c11<;>kernel_rfl) ((Run.nil))))))) ?_
       obtain⟨j13,hj13,h⟩:=Ag h
       refine W.join (j:=j13) (fun p σ=>σ.tidy [] [(0,false),(3,false),(7,false),(8,false),(9,false)] [(.loc 7 0,false),(.loc 3 0,false)] [] []=⟨[(0,Vl Aa.pv l1),(3,.ptr (.loc 3 0) 0),(7,.own (.loc 7 0)),(8,Vb p.1),(9,Vi i9)],[(.loc 7 0,.row 9 (List.map Aa.pv p.2)),(.loc 3 0,.box [Vi h2.Bc,Vi h2.Az,Vi h2.Ak.Bb,Vi h2.Ak.Ao,Vi h2.A9,.pv (.int .i32 h2.B5),.pv (.int .i32 h2.Cb),Vi h2.Bo,Vb h2.C4])]⟩) ?_ (fun σj13 hsj13=>?_)
       ·replace h:=hj13
        refine De (t:=(c11&&(decide (x12.Bc>h2.Bc)))) (by kernel_rfl) h (fun hc h'=>?_) (fun hc h'=>?_)
        ·replace h:=h'
         obtain⟨x14,hx14,h⟩:=Ag h
         refine Ab (Bw 3 (Aj.dyn (C5 (k:= .loc 7 0) (f:=Aa.pv) (l:=row10) (m:=[h2]) (by kernel_rfl) (by kernel_rfl) (by kernel_rfl) hx14 (fun _=>rfl) (by kernel_rfl)) Aw)) ?_
         refine W.ops Aw ?_
         cases h
         exact Jw
        ·replace h:=h'
         cases h
         exact W.skip Jw
       ·obtain⟨done15,row16⟩:=j13
        refine An hsj13 ?_
        obtain⟨x17,hx17,h⟩:=Ag h
        obtain⟨x18,hx18,h⟩:=Ag h
        refine Ab (Bw 3 (Aj.dyn (Iw Aa.pv l1 i9 x17 hx17) (Bw 2 (Aj.dyn (C5 (k:= .loc 7 0) (f:=Aa.pv) (l:=row16) (m:=[x17]) (by kernel_rfl) (by kernel_rfl) (by kernel_rfl) hx18 (fun _=>rfl) (by kernel_rfl)) Aw)))) ?_
        refine W.ops Aw ?_
        cases h
        exact Ow
      ·replace h:=h'
       cases h
       exact Bp ((Bh B6 (D3 (by(show _=_);kernel_rfl))))
    ·obtain⟨done19,row20⟩:=j7
     refine Ae ?_
     refine An hsj7 ?_
     refine Ab Aw ?_
     obtain⟨j21,hj21,h⟩:=Ag h
     refine W.join (j:=j21) (fun p σ=>σ.tidy [.loc 7 0] [(7,true)] [] [.loc 3 0] []=⟨[(7,Vl Aa.pv p)],[]⟩) ?_ (fun σj21 hsj21=>?_)
     ·replace h:=hj21
      refine De (t:= !done19) (by kernel_rfl) h (fun hc h'=>?_) (fun hc h'=>?_)
      ·replace h:=h'
       obtain⟨x22,hx22,h⟩:=Ag h
       refine W.ops (Bw 3 (Aj.dyn (C5 (k:= .loc 7 0) (f:=Aa.pv) (l:=row20) (m:=[h2]) (by kernel_rfl) (by kernel_rfl) (by kernel_rfl) hx22 (fun _=>rfl) (by kernel_rfl)) Aw)) ?_
       cases h
       exact Jw
      ·replace h:=h'
       cases h
       exact W.skip Jw
     ·refine An hsj21 ?_
      refine Ab Aw ?_
      refine W.keep rfl ?_
      cases h
      exact W.ret Fw
def A4o:List GOp:=[k0 4 0]
def A4p:List GOp:=[m0 7 0,e0 8 7,k0 9 0]
def A4q:List GOp:=[p0 10 .lss 9 8]
def A4r:List GOp:=[m0 11 9,i0 12 8 7 9,t0 13 8 12,o0 6 (.alloc [.pv (.int .i64 0),.pv (.int .i64 0),.pv (.int .i64 0),.pv (.int .i64 0),.pv (.int .i64 0),.pv (.int .i64 0),.pv (.int .i32 0),.pv (.int .i32 0)]),m0 5 11,s0 8 6 13]
def A4s:List GOp:=[f0 14 0 6,l0 15 1 14,m0 16 1,p0 17 .eql 15 16]
def A4t:List GOp:=[m0 18 5,m0 4 18]
def A4u:List GOp:=[q0 19 .add 9 1,m0 9 19]
def A4n:AC:=(.keep [] [(1,false),(7,false),(8,false),(9,false)] [] [.loc 6 0] [] (.seq (.ops A4q) (.seq (.cond (.tmp 10) .skip (.exit 0)) (.seq (.pass 1 (.seq (.ops A4r) (.seq (.ops A4s) (.cond (.tmp 17) (.seq (.ops A4t) (.keep [] [(4,false)] [] [.loc 6 0] [] .ret)) .skip)))) (.ops A4u)))))
def A4v:List GOp:=[k0 4 (-1)]
def Bgj:AC:=(.seq (.ops A4o) (.seq (.seq (.ops A4p) (.block 0 (.loop [1,7,8,9] [] A4n))) (.seq (.keep [] [] [] [] [] (.ops A4v)) (.keep [] [(4,false)] [] [.loc 6 0] [] .ret))))
def Q41:Fd:=⟨2,[.tmp 4],[],Bgj⟩
theorem Atb:Bl Tryz.prog Tryz.f40 Q41=true:=by kernel_rfl
theorem Jo{l1:List Ad}{a2:Int}{r:Int}(h:E1 l1 a2=some r):A3 Tryz.prog 40 [Vl Ad.pv l1,Vi a2] [] ⟨Vi r,[],[]⟩:=by
 refine Ap hm Tryz.func40 Atb (by kernel_rfl) ?_
 unfold E1 at h
 refine Ab Aw ?_
 refine Ae ?_
 refine Ab (Bw 1 (Aj.dyn (Lw Ad.pv l1) Aw)) ?_
 obtain⟨j3,hj3,h⟩:=Ag h
 refine Ck (j:=j3) (o:=r) (fun p σ=>σ.tidy [] [] [] [] []=⟨[],[]⟩) ?_ (fun p σj3 hp hsj3=>?_) (fun p hp=>?_)
 ·refine B1 (fun q σ=>((σ.forget [1,7,8,9]).killAll []).tidy [] [(1,false),(7,false),(8,false),(9,false)] [] [.loc 6 0] []=⟨[(1,Vi a2),(7,Vl Ad.pv l1),(8,Vi (l1.length:Int)),(9,Vi q)],[]⟩) hj3 ?_ ?_
  ·show _=_
   kernel_rfl
  ·intro x4 σj3 oj3 hJj3 h
   refine W.keep hJj3 ?_
   refine Ab Aw ?_
   refine Ar (t:=decide (x4<(l1.length:Int))) (by kernel_rfl) h (fun hc h'=>?_) (fun hc h'=>?_)
   ·replace h:=h'
    refine Ay ?_
    refine Bs ?_
    refine Ae ?_
    obtain⟨x5,hx5,h⟩:=Ag h
    refine Ab (Bw 1 (Aj.dyn (Iw Ad.pv l1 x4 x5 hx5) Aw)) ?_
    refine Ae ?_
    refine Ab Aw ?_
    refine Ar (t:=(x5.Az==a2)) (by kernel_rfl) h (fun hc h'=>?_) (fun hc h'=>?_)
    ·replace h:=h'
     refine Ae ?_
     refine Ab Aw ?_
     refine An rfl ?_
     cases h
     exact A8 ((Bh Cd (Ed Cd Dh (fun e=>by subst e;exact Fw))))
    ·replace h:=h'
     refine Ay ?_
     refine W.ops Aw ?_
     cases h
     exact Ow
   ·replace h:=h'
    cases h
    exact Bp ((Bh B6 (Eh (by(show _=_);kernel_rfl))))
 ·subst hp
  obtain⟨⟩:=p
  refine An hsj3 ?_
  refine Ab Aw ?_
  refine W.keep rfl ?_
  cases h
  exact W.ret Fw
 ·subst hp
  exact Option.some.inj h
def A69:List GOp:=[o0 6 (.mov .nils)]
def A7a:List GOp:=[o0 12 (.lit false 3 []),m0 7 12]
def A7b:List GOp:=[m0 13 0,e0 14 13,k0 15 0]
def A7c:List GOp:=[p0 16 .lss 15 14]
def A7d:List GOp:=[i0 17 7 13 15,t0 18 7 17,o0 9 (.alloc [.pv (.int .i64 0),.pv (.int .i32 0),.pv (.int .i32 0),.nils,.pv (.int .i64 0),.pv (.int .i64 0),.pv (.str [])]),s0 7 9 18]
def A7e:List GOp:=[f0 19 3 9,l0 20 1 19,e0 21 20,k0 22 0]
def A7f:List GOp:=[p0 23 .lss 22 21]
def A7g:List GOp:=[i0 24 3 20 22,t0 25 3 24,o0 11 (.alloc [.pv (.int .i64 0),.pv (.int .i64 0),.pv (.int .i64 0)]),s0 3 11 25]
def A7h:List GOp:=[f0 26 0 11,l0 27 1 26,m0 28 1,p0 29 .eql 27 28,m0 30 29,g0 31 30 true (.fld 1 (.tmp 11)),g0 32 30 true (.fld 0 (.tmp 31)),g0 33 30 true (.load false 1 (.tmp 32)),g0 34 30 true (.mov (.tmp 2)),g0 35 30 true (.bin false .eql (.tmp 33) (.tmp 34)),o0 36 (.pick (.tmp 30) (.tmp 35) (.cst (.bool false)))]
def A7i:List GOp:=[m0 37 7,f0 38 1 9,l0 39 1 38,f0 40 2 9,l0 41 1 40,f0 42 1 11,f0 43 1 42,l0 44 1 43,o0 45 (.build [.pv (.int .i32 0),.pv (.int .i32 0),.pv (.int .i64 0)] [(0,1,(.tmp 39)),(1,1,(.tmp 41)),(2,1,(.tmp 44))]),o0 46 (.lit false 3 [(.tmp 45)]),o0 47 (.append 7 3 16 (.tmp 37) (.tmp 46)),m0 7 47]
def Auc:List GOp:=[q0 48 .add 22 1,m0 22 48]
def Aua:AC:=(.keep [] [(1,false),(2,false),(7,false),(9,false),(13,false),(14,false),(15,false),(20,false),(21,false),(22,false)] [(.loc 7 0,false),(.loc 9 0,false)] [] [] (.seq (.ops A7f) (.seq (.cond (.tmp 23) .skip (.exit 2)) (.seq (.pass 3 (.seq (.ops A7g) (.seq (.ops A7h) (.cond (.tmp 36) (.ops A7i) .skip)))) (.keep [] [(1,false),(2,false),(7,false),(9,false),(13,false),(14,false),(15,false),(20,false),(21,false),(22,false)] [(.loc 7 0,false),(.loc 9 0,false)] [.loc 11 0] [] (.ops Auc))))))
def Aud:List GOp:=[q0 49 .add 15 1,m0 15 49]
def Aub:AC:=(.keep [] [(1,false),(2,false),(7,false),(13,false),(14,false),(15,false)] [(.loc 7 0,false)] [] [.slot 7 (.loc 7 0) 3] (.seq (.ops A7c) (.seq (.cond (.tmp 16) .skip (.exit 0)) (.seq (.pass 1 (.seq (.ops A7d) (.seq (.ops A7e) (.block 2 (.loop [1,2,7,9,13,14,15,20,21,22] [] Aua))))) (.keep [] [(1,false),(2,false),(7,false),(13,false),(14,false),(15,false)] [(.loc 7 0,false)] [.loc 9 0] [] (.ops Aud))))))
def Aue:List GOp:=[m0 50 7,m0 6 50]
def Bg4:AC:=(.seq (.ops A69) (.seq (.ops A7a) (.seq (.seq (.ops A7b) (.block 0 (.loop [1,2,7,13,14,15] [] Aub))) (.seq (.keep [.loc 7 0] [(7,true)] [] [] [] (.ops Aue)) (.keep [] [(6,false)] [] [] [] .ret)))))
def Q53:Fd:=⟨3,[.tmp 6],[],Bg4⟩
theorem At9:Bl Tryz.prog Tryz.f43 Q53=true:=by kernel_rfl
theorem J4{l1:List Af}{acc2:Int}{cur3:Int}{r:List Am}(h:Ff l1 acc2 cur3=some r):A3 Tryz.prog 43 [Vl Af.pv l1,Vi acc2,Vi cur3] [] ⟨Vl Am.pv r,[],[]⟩:=by
 refine Ap hm Tryz.func43 At9 (by kernel_rfl) ?_
 unfold Ff at h
 refine Ab Aw ?_
 refine Ab Aw ?_
 refine Ae ?_
 refine Ab (Bw 1 (Aj.dyn (Lw Af.pv l1) Aw)) ?_
 obtain⟨j4,hj4,h⟩:=Ag h
 refine W.join (j:=j4) (fun p σ=>σ.tidy [.loc 7 0] [(7,true)] [] [] []=⟨[(7,Vl Am.pv p)],[]⟩) ?_ (fun σj4 hsj4=>?_)
 ·refine Ch (fun q σ=>((σ.forget [1,2,7,13,14,15]).killAll []).tidy [] [(1,false),(2,false),(7,false),(13,false),(14,false),(15,false)] [(.loc 7 0,false)] [] [.slot 7 (.loc 7 0) 3]=⟨[(1,Vi acc2),(2,Vi cur3),(7,.own (.loc 7 0)),(13,Vl Af.pv l1),(14,Vi (l1.length:Int)),(15,Vi q.1)],[(.loc 7 0,.row 3 (List.map Am.pv q.2))]⟩) hj4 ?_ ?_
  ·show _=_
   kernel_rfl
  ·intro q σj4 oj4 hJj4 h
   obtain⟨x5,row6⟩:=q
   refine W.keep hJj4 ?_
   refine Ab Aw ?_
   refine Ar (t:=decide (x5<(l1.length:Int))) (by kernel_rfl) h (fun hc h'=>?_) (fun hc h'=>?_)
   ·replace h:=h'
    refine Ay ?_
    refine Bs ?_
    refine Ae ?_
    obtain⟨x7,hx7,h⟩:=Ag h
    refine Ab (Aj.dyn (Iw Af.pv l1 x5 x7 hx7) Aw) ?_
    refine Ae ?_
    refine Ab (Bw 2 (Aj.dyn (Lw Bj.pv x7.B0) Aw)) ?_
    obtain⟨j8,hj8,h⟩:=Ag h
    refine W.join (j:=j8) (fun p σ=>σ.tidy [] [(1,false),(2,false),(7,false),(13,false),(14,false),(15,false)] [(.loc 7 0,false)] [.loc 9 0] []=⟨[(1,Vi acc2),(2,Vi cur3),(7,.own (.loc 7 0)),(13,Vl Af.pv l1),(14,Vi (l1.length:Int)),(15,Vi x5)],[(.loc 7 0,.row 3 (List.map Am.pv p))]⟩) ?_ (fun σj8 hsj8=>?_)
    ·refine Ch (fun q σ=>((σ.forget [1,2,7,9,13,14,15,20,21,22]).killAll []).tidy [] [(1,false),(2,false),(7,false),(9,false),(13,false),(14,false),(15,false),(20,false),(21,false),(22,false)] [(.loc 7 0,false),(.loc 9 0,false)] [] []=⟨[(1,Vi acc2),(2,Vi cur3),(7,.own (.loc 7 0)),(9,.ptr (.loc 9 0) 0),(13,Vl Af.pv l1),(14,Vi (l1.length:Int)),(15,Vi x5),(20,Vl Bj.pv x7.B0),(21,Vi (x7.B0.length:Int)),(22,Vi q.1)],[(.loc 7 0,.row 3 (List.map Am.pv q.2)),(.loc 9 0,.box [Vi x7.Bc,.pv (.int .i32 x7.Cy),.pv (.int .i32 x7.Cp),Vl Bj.pv x7.B0,Vi x7.Fg,Vi x7.Ca,.pv (.str x7.Kf)])]⟩) hj8 ?_ ?_
     ·show _=_
      kernel_rfl
     ·intro q σj8 oj8 hJj8 h
      obtain⟨x9,row10⟩:=q
      refine W.keep hJj8 ?_
      refine Ab Aw ?_
      refine Ar (t:=decide (x9<(x7.B0.length:Int))) (by kernel_rfl) h (fun hc h'=>?_) (fun hc h'=>?_)
      ·replace h:=h'
       refine Ay ?_
       refine Bs ?_
       refine Ae ?_
       obtain⟨x11,hx11,h⟩:=Ag h
       refine Ab (Aj.dyn (Iw Bj.pv x7.B0 x9 x11 hx11) Aw) ?_
       refine Ae ?_
       obtain⟨c12,hc12,h⟩:=Ag h
       refine Ab (Bw 4 (Aj.dyn (Nw (x11.Az==acc2) c12 hc12) (Aj.puts 6 [(36,Vb (c12&&(x11.Ak.Bb==cur3))),(35,(Bf c12 (Vb (x11.Ak.Bb==cur3)))),(34,(Bf c12 (Vi cur3))),(33,(Bf c12 (Vi x11.Ak.Bb))),(32,(Bf c12 (.ptr (.loc 11 0) 1))),(31,(Bf c12 (.ptr (.loc 11 0) 1)))] (by cases c12<;>kernel_rfl) ((.nil _))))) ?_
       obtain⟨j13,hj13,h⟩:=Ag h
       refine W.join (j:=j13) (fun p σ=>σ.tidy [] [(1,false),(2,false),(7,false),(9,false),(13,false),(14,false),(15,false),(20,false),(21,false),(22,false)] [(.loc 7 0,false),(.loc 9 0,false)] [.loc 11 0] []=⟨[(1,Vi acc2),(2,Vi cur3),(7,.own (.loc 7 0)),(9,.ptr (.loc 9 0) 0),(13,Vl Af.pv l1),(14,Vi (l1.length:Int)),(15,Vi x5),(20,Vl Bj.pv x7.B0),(21,Vi (x7.B0.length:Int)),(22,Vi x9)],[(.loc 7 0,.row 3 (List.map Am.pv p)),(.loc 9 0,.box [Vi x7.Bc,.pv (.int .i32 x7.Cy),.pv (.int .i32 x7.Cp),Vl Bj.pv x7.B0,Vi x7.Fg,Vi x7.Ca,.pv (.str x7.Kf)])]⟩) ?_ (fun σj13 hsj13=>?_)
       ·replace h:=hj13
        refine De (t:=(c12&&(x11.Ak.Bb==cur3))) (by kernel_rfl) h (fun hc h'=>?_) (fun hc h'=>?_)
        ·replace h:=h'
         obtain⟨x14,hx14,h⟩:=Ag h
         refine W.ops (Bw 10 (Aj.dyn (C5 (k:= .loc 7 0) (f:=Am.pv) (l:=row10) (m:=[(⟨x7.Cy,x7.Cp,x11.Ak.Ao⟩:Am)]) (by kernel_rfl) (by kernel_rfl) (by kernel_rfl) hx14 (fun _=>rfl) (by kernel_rfl)) Aw)) ?_
         cases h
         exact Jw
        ·replace h:=h'
         cases h
         exact W.skip Jw
       ·refine W.keep hsj13 ?_
        refine W.ops Aw ?_
        cases h
        exact Ow
      ·replace h:=h'
       cases h
       exact Bp ((Bh B6 (D3 (by(show _=_);kernel_rfl))))
    ·refine W.keep hsj8 ?_
     refine W.ops Aw ?_
     cases h
     exact Ow
   ·replace h:=h'
    cases h
    exact Bp ((Bh B6 (D3 (by(show _=_);kernel_rfl))))
 ·refine An hsj4 ?_
  refine Ab Aw ?_
  refine W.keep rfl ?_
  cases h
  exact W.ret Fw
def A4w:List GOp:=[b0 2 false]
def A4x:List GOp:=[k0 3 0]
def A4y:List GOp:=[m0 6 0,e0 7 6,k0 8 0]
def A4z:List GOp:=[p0 9 .lss 8 7]
def A40:List GOp:=[i0 10 3 6 8,t0 11 3 10,o0 5 (.alloc [.pv (.int .i32 0),.pv (.int .i32 0),.pv (.int .i64 0)]),s0 3 5 11]
def A41:List GOp:=[f0 12 2 5,l0 13 1 12,q0 14 .gtr 13 1000000000000000000,m0 15 14,g0 16 15 false (.fld 2 (.tmp 5)),g0 17 15 false (.load false 1 (.tmp 16)),g0 18 15 false (.bin false .lss (.tmp 17) (.cst (.int .i64 (-1000000000000000000)))),o0 19 (.pick (.tmp 15) (.cst (.bool true)) (.tmp 18))]
def A42:List GOp:=[b0 2 true]
def A43:List GOp:=[f0 20 2 5,l0 21 1 20,q0 22 .lss 21 0]
def A44:List GOp:=[m0 23 3,f0 24 2 5,l0 25 1 24,p0 26 .sub 23 25,m0 3 26]
def A45:List GOp:=[m0 27 3,f0 28 2 5,l0 29 1 28,p0 30 .add 27 29,m0 3 30]
def Ate:List GOp:=[m0 31 3,q0 32 .gtr 31 1000000000000000000]
def Atf:List GOp:=[b0 2 true]
def Atg:List GOp:=[q0 33 .add 8 1,m0 8 33]
def Atd:AC:=(.keep [] [(3,false),(6,false),(7,false),(8,false)] [] [] [] (.seq (.ops A4z) (.seq (.cond (.tmp 9) .skip (.exit 0)) (.seq (.pass 1 (.seq (.ops A40) (.seq (.seq (.ops A41) (.cond (.tmp 19) (.seq (.ops A42) (.keep [] [(2,false)] [] [.loc 5 0] [] .ret)) .skip)) (.seq (.seq (.ops A43) (.cond (.tmp 22) (.ops A44) (.ops A45))) (.seq (.keep [] [(3,false),(6,false),(7,false),(8,false)] [] [.loc 5 0] [] (.ops Ate)) (.cond (.tmp 32) (.seq (.ops Atf) (.keep [] [(2,false)] [] [.loc 5 0] [] .ret)) .skip)))))) (.ops Atg)))))
def Ath:List GOp:=[b0 2 false]
def Bgk:AC:=(.seq (.ops A4w) (.seq (.ops A4x) (.seq (.seq (.ops A4y) (.block 0 (.loop [3,6,7,8] [] Atd))) (.seq (.keep [] [] [] [] [] (.ops Ath)) (.keep [] [(2,false)] [] [.loc 5 0] [] .ret)))))
def Q42:Fd:=⟨1,[.tmp 2],[],Bgk⟩
theorem Atc:Bl Tryz.prog Tryz.f42 Q42=true:=by kernel_rfl
theorem Oc{l1:List Am}{r:Bool}(h:Fr l1=some r):A3 Tryz.prog 42 [Vl Am.pv l1] [] ⟨Vb r,[],[]⟩:=by
 refine Ap hm Tryz.func42 Atc (by kernel_rfl) ?_
 unfold Fr at h
 refine Ab Aw ?_
 refine Ab Aw ?_
 refine Ae ?_
 refine Ab (Bw 1 (Aj.dyn (Lw Am.pv l1) Aw)) ?_
 obtain⟨j2,hj2,h⟩:=Ag h
 refine Ck (j:=j2) (o:=r) (fun p σ=>σ.tidy [] [] [] [] []=⟨[],[]⟩) ?_ (fun p σj2 hp hsj2=>?_) (fun p hp=>?_)
 ·refine B1 (fun q σ=>((σ.forget [3,6,7,8]).killAll []).tidy [] [(3,false),(6,false),(7,false),(8,false)] [] [] []=⟨[(3,Vi q.1),(6,Vl Am.pv l1),(7,Vi (l1.length:Int)),(8,Vi q.2)],[]⟩) hj2 ?_ ?_
  ·show _=_
   kernel_rfl
  ·intro q σj2 oj2 hJj2 h
   obtain⟨sum3,x4⟩:=q
   refine W.keep hJj2 ?_
   refine Ab Aw ?_
   refine Ar (t:=decide (x4<(l1.length:Int))) (by kernel_rfl) h (fun hc h'=>?_) (fun hc h'=>?_)
   ·replace h:=h'
    refine Ay ?_
    refine Bs ?_
    refine Ae ?_
    obtain⟨x5,hx5,h⟩:=Ag h
    refine Ab (Aj.dyn (Iw Am.pv l1 x4 x5 hx5) Aw) ?_
    refine Ae ?_
    refine Ae ?_
    obtain⟨c6,hc6,h⟩:=Ag h
    refine Ab (Bw 3 (Aj.dyn (Nw (decide (x5.Ao>1000000000000000000)) c6 hc6) (Aj.puts 4 [(19,Vb (c6||(decide (x5.Ao<(-1000000000000000000))))),(18,(Bf (!c6) (Vb (decide (x5.Ao<(-1000000000000000000)))))),(17,(Bf (!c6) (Vi x5.Ao))),(16,(Bf (!c6) (.ptr (.loc 5 0) 2)))] (by cases c6<;>kernel_rfl) ((.nil _))))) ?_
    refine Ar (t:=(c6||(decide (x5.Ao<(-1000000000000000000))))) (by kernel_rfl) h (fun hc h'=>?_) (fun hc h'=>?_)
    ·replace h:=h'
     refine Ae ?_
     refine Ab Aw ?_
     refine An rfl ?_
     cases h
     exact A8 ((Bh Cd (Ed Cd Dh (fun e=>by subst e;exact Fw))))
    ·replace h:=h'
     refine Ay ?_
     refine Ae ?_
     refine Ae ?_
     refine Ab Aw ?_
     obtain⟨j7,hj7,h⟩:=Ag h
     refine W.join (j:=j7) (fun p σ=>σ.tidy [] [(3,false),(6,false),(7,false),(8,false)] [] [.loc 5 0] []=⟨[(3,Vi p),(6,Vl Am.pv l1),(7,Vi (l1.length:Int)),(8,Vi x4)],[]⟩) ?_ (fun σj7 hsj7=>?_)
     ·replace h:=hj7
      refine De (t:=decide (x5.Ao<0)) (by kernel_rfl) h (fun hc h'=>?_) (fun hc h'=>?_)
      ·replace h:=h'
       refine W.ops Aw ?_
       cases h
       exact Jw
      ·replace h:=h'
       refine W.ops Aw ?_
       cases h
       exact Jw
     ·refine Ae ?_
      refine An hsj7 ?_
      refine Ab Aw ?_
      refine Ar (t:=decide (j7>1000000000000000000)) (by kernel_rfl) h (fun hc h'=>?_) (fun hc h'=>?_)
      ·replace h:=h'
       refine Ae ?_
       refine Ab Aw ?_
       refine An rfl ?_
       cases h
       exact A8 ((Bh Cd (Ed Cd Dh (fun e=>by subst e;exact Fw))))
      ·replace h:=h'
       refine Ay ?_
       refine W.ops Aw ?_
       cases h
       exact Ow
   ·replace h:=h'
    cases h
    exact Bp ((Bh B6 (Eh (by(show _=_);kernel_rfl))))
 ·subst hp
  obtain⟨⟩:=p
  refine An hsj2 ?_
  refine Ab Aw ?_
  refine W.keep rfl ?_
  cases h
  exact W.ret Fw
 ·subst hp
  exact Option.some.inj h
def A9f:List GOp:=[o0 3 (.box (.tmp 0)),k0 6 0]
def A9g:List GOp:=[f0 9 0 3,f0 10 1 9,l0 11 1 10,m0 12 1,o0 13 (.call 0 0 (.cst (.fn 40)) [(.tmp 11),(.tmp 12)] [] []),m0 7 13]
def A9h:List GOp:=[m0 14 7,q0 15 .lss 14 0]
def A9i:List GOp:=[k0 6 8]
def A9j:List GOp:=[f0 16 0 3,f0 17 1 16,l0 18 1 17,m0 19 7,i0 20 8 18 19,t0 21 8 20,o0 8 (.alloc [.pv (.int .i64 0),.pv (.int .i64 0),.pv (.int .i64 0),.pv (.int .i64 0),.pv (.int .i64 0),.pv (.int .i64 0),.pv (.int .i32 0),.pv (.int .i32 0)]),s0 8 8 21]
def A9k:List GOp:=[f0 22 1 8,l0 23 1 22,q0 24 .neq 23 1]
def A9l:List GOp:=[k0 6 13]
def A9m:List GOp:=[m0 25 2,o0 26 (.call 0 0 (.cst (.fn 41)) [(.tmp 25)] [] []),o0 27 (.un .not (.tmp 26))]
def A9n:List GOp:=[k0 6 11]
def A9o:List GOp:=[m0 28 2,f0 29 6 8,l0 30 1 29,p0 31 .lss 28 30,m0 32 31,g0 33 32 false (.mov (.tmp 2)),g0 34 32 false (.fld 7 (.tmp 8)),g0 35 32 false (.load false 1 (.tmp 34)),g0 36 32 false (.bin false .gtr (.tmp 33) (.tmp 35)),o0 37 (.pick (.tmp 32) (.cst (.bool true)) (.tmp 36))]
def Ava:List GOp:=[k0 6 16]
def Avb:List GOp:=[f0 38 2 3,l0 39 1 38,m0 40 1,f0 41 2 8,l0 42 1 41,o0 43 (.call 0 0 (.cst (.fn 43)) [(.tmp 39),(.tmp 40),(.tmp 42)] [] []),o0 44 (.call 0 0 (.cst (.fn 42)) [(.tmp 43)] [] [])]
def Avc:List GOp:=[k0 6 9]
def Avd:List GOp:=[k0 6 0]
def Bhk:AC:=(.seq (.ops A9f) (.seq (.ops A9g) (.seq (.seq (.ops A9h) (.cond (.tmp 15) (.seq (.ops A9i) (.keep [] [(6,false)] [] [.loc 3 0,.loc 8 0] [] .ret)) .skip)) (.seq (.ops A9j) (.seq (.seq (.ops A9k) (.cond (.tmp 24) (.seq (.ops A9l) (.keep [] [(6,false)] [] [.loc 3 0,.loc 8 0] [] .ret)) .skip)) (.seq (.seq (.ops A9m) (.cond (.tmp 27) (.seq (.ops A9n) (.keep [] [(6,false)] [] [.loc 3 0,.loc 8 0] [] .ret)) .skip)) (.seq (.seq (.ops A9o) (.cond (.tmp 37) (.seq (.ops Ava) (.keep [] [(6,false)] [] [.loc 3 0,.loc 8 0] [] .ret)) .skip)) (.seq (.seq (.ops Avb) (.cond (.tmp 44) (.seq (.ops Avc) (.keep [] [(6,false)] [] [.loc 3 0,.loc 8 0] [] .ret)) .skip)) (.seq (.ops Avd) (.keep [] [(6,false)] [] [.loc 3 0,.loc 8 0] [] .ret))))))))))
def Q67:Fd:=⟨3,[.tmp 6],[],Bhk⟩
theorem Au9:Bl Tryz.prog Tryz.f14 Q67=true:=by kernel_rfl
theorem K7{t1:Ah}{acc2:Int}{now3:Int}{r:Int}(h:Es t1 acc2 now3=some r):A3 Tryz.prog 14 [.pv (Ah.pv t1),Vi acc2,.pv (.int .i32 now3)] [] ⟨Vi r,[],[]⟩:=by
 refine Ap hm Tryz.func14 Au9 (by kernel_rfl) ?_
 unfold Es at h
 refine Ab Aw ?_
 obtain⟨x4,hx4,h⟩:=Ag h
 refine Ab (Bw 4 (Aj.cons (Tw (Jo hx4) Ax) (Kw 40 [] (Vi x4) Hw) Aw)) ?_
 refine Ae ?_
 refine Ab Aw ?_
 refine Ar (t:=decide (x4<0)) (by kernel_rfl) h (fun hc h'=>?_) (fun hc h'=>?_)
 ·replace h:=h'
  refine Ae ?_
  refine Ab Aw ?_
  refine An rfl ?_
  cases h
  exact A8 Fw
 ·replace h:=h'
  refine Ay ?_
  obtain⟨x5,hx5,h⟩:=Ag h
  refine Ab (Bw 4 (Aj.dyn (Iw Ad.pv t1.Bk.Au x4 x5 hx5) Aw)) ?_
  refine Ae ?_
  refine Ab Aw ?_
  refine Ar (t:=(x5.Ca !=1)) (by kernel_rfl) h (fun hc h'=>?_) (fun hc h'=>?_)
  ·replace h:=h'
   refine Ae ?_
   refine Ab Aw ?_
   refine An rfl ?_
   cases h
   exact A8 Fw
  ·replace h:=h'
   refine Ay ?_
   refine Ae ?_
   obtain⟨x6,hx6,h⟩:=Ag h
   refine Ab (Bw 1 (Aj.cons (Tw (Eo hx6) Ax) (Kw 41 [] (Vb x6) Hw) Aw)) ?_
   refine Ar (t:= !x6) (by kernel_rfl) h (fun hc h'=>?_) (fun hc h'=>?_)
   ·replace h:=h'
    refine Ae ?_
    refine Ab Aw ?_
    refine An rfl ?_
    cases h
    exact A8 Fw
   ·replace h:=h'
    refine Ay ?_
    refine Ae ?_
    obtain⟨c7,hc7,h⟩:=Ag h
    refine Ab (Bw 4 (Aj.dyn (Nw (decide (now3<x5.Eu)) c7 hc7) (Aj.puts 5 [(37,Vb (c7||(decide (now3>x5.Iu)))),(36,(Bf (!c7) (Vb (decide (now3>x5.Iu))))),(35,(Bf (!c7) (.pv (.int .i32 x5.Iu)))),(34,(Bf (!c7) (.ptr (.loc 8 0) 7))),(33,(Bf (!c7) (.pv (.int .i32 now3))))] (by cases c7<;>kernel_rfl) ((.nil _))))) ?_
    refine Ar (t:=(c7||(decide (now3>x5.Iu)))) (by kernel_rfl) h (fun hc h'=>?_) (fun hc h'=>?_)
    ·replace h:=h'
     refine Ae ?_
     refine Ab Aw ?_
     refine An rfl ?_
     cases h
     exact A8 Fw
    ·replace h:=h'
     refine Ay ?_
     refine Ae ?_
     obtain⟨x8,hx8,h⟩:=Ag h
     obtain⟨x9,hx9,h⟩:=Ag h
     refine Ab (Bw 5 (Aj.cons (Tw (J4 hx8) Ax) (Kw 43 [] (Vl Am.pv x8) Hw) (Aj.cons (Tw (Oc hx9) Ax) (Kw 42 [] (Vb x9) Hw) ((.nil _))))) ?_
     refine Ar (t:=x9) (by kernel_rfl) h (fun hc h'=>?_) (fun hc h'=>?_)
     ·replace h:=h'
      refine Ae ?_
      refine Ab Aw ?_
      refine An rfl ?_
      cases h
      exact A8 Fw
     ·replace h:=h'
      refine Ay ?_
      refine Ab Aw ?_
      refine W.keep rfl ?_
      cases h
      exact W.ret Fw
def A9p:List GOp:=[o0 2 (.box (.tmp 0)),k0 4 0]
def A9q:List GOp:=[f0 5 0 2,f0 6 1 5,l0 7 1 6,f0 8 0 2,f0 9 1 8,l0 10 1 9,m0 11 1,o0 12 (.call 0 0 (.cst (.fn 40)) [(.tmp 10),(.tmp 11)] [] []),i0 13 8 7 12,f0 14 2 13,l0 15 1 14,m0 4 15]
def Bhl:AC:=(.seq (.ops A9p) (.seq (.draw [] A9q) (.keep [] [(4,false)] [] [.loc 2 0] [] .ret)))
def Q68:Fd:=⟨2,[.tmp 4],[],Bhl⟩
theorem Ave:Bl Tryz.prog Tryz.f17 Q68=true:=by kernel_rfl
theorem Fi{t1:Ah}{acc2:Int}{r:Int}(h:Dg t1 acc2=some r):A3 Tryz.prog 17 [.pv (Ah.pv t1),Vi acc2] [] ⟨Vi r,[],[]⟩:=by
 refine Ap hm Tryz.func17 Ave (by kernel_rfl) ?_
 unfold Dg at h
 refine Ab Aw ?_
 obtain⟨x3,hx3,h⟩:=Ag h
 obtain⟨x4,hx4,h⟩:=Ag h
 refine Bx (Tw (Jo hx3) Ax) (Dw 7 (Run.dyn (Kw 40 [] (Vi x3) Hw) (Run.dyn (Iw Ad.pv t1.Bk.Au x3 x4 hx4) Cw))) ?_
 refine W.keep rfl ?_
 cases h
 exact W.ret Fw
def Bab:List GOp:=[k0 4 0]
def Bac:List GOp:=[k0 5 0]
def Bad:List GOp:=[m0 8 0,e0 9 8,k0 10 0]
def Bae:List GOp:=[p0 11 .lss 10 9]
def Baf:List GOp:=[i0 12 3 8 10,t0 13 3 12,o0 7 (.alloc [.pv (.int .i32 0),.pv (.int .i32 0),.pv (.int .i64 0)]),s0 3 7 13]
def Bag:List GOp:=[f0 14 1 7,l0 15 1 14,m0 16 1,p0 17 .leq 15 16]
def Bah:List GOp:=[m0 18 5,f0 19 2 7,l0 20 1 19,p0 21 .add 18 20,m0 5 21]
def Bai:List GOp:=[q0 22 .add 10 1,m0 10 22]
def Baa:AC:=(.keep [] [(1,false),(5,false),(8,false),(9,false),(10,false)] [] [] [] (.seq (.ops Bae) (.seq (.cond (.tmp 11) .skip (.exit 0)) (.seq (.pass 1 (.seq (.ops Baf) (.seq (.ops Bag) (.cond (.tmp 17) (.ops Bah) .skip)))) (.keep [] [(1,false),(5,false),(8,false),(9,false),(10,false)] [] [.loc 7 0] [] (.ops Bai))))))
def Baj:List GOp:=[m0 23 5,m0 4 23]
def Bh0:AC:=(.seq (.ops Bab) (.seq (.ops Bac) (.seq (.seq (.ops Bad) (.block 0 (.loop [1,5,8,9,10] [] Baa))) (.seq (.keep [] [(5,false)] [] [] [] (.ops Baj)) (.keep [] [(4,false)] [] [] [] .ret)))))
def Q74:Fd:=⟨2,[.tmp 4],[],Bh0⟩
theorem Avk:Bl Tryz.prog Tryz.f44 Q74=true:=by kernel_rfl
theorem Rj{l1:List Am}{upto2:Int}{r:Int}(h:G8 l1 upto2=some r):A3 Tryz.prog 44 [Vl Am.pv l1,.pv (.int .i32 upto2)] [] ⟨Vi r,[],[]⟩:=by
 refine Ap hm Tryz.func44 Avk (by kernel_rfl) ?_
 unfold G8 at h
 refine Ab Aw ?_
 refine Ab Aw ?_
 refine Ae ?_
 refine Ab (Bw 1 (Aj.dyn (Lw Am.pv l1) Aw)) ?_
 obtain⟨j3,hj3,h⟩:=Ag h
 refine W.join (j:=j3) (fun p σ=>σ.tidy [] [(5,false)] [] [] []=⟨[(5,Vi p)],[]⟩) ?_ (fun σj3 hsj3=>?_)
 ·refine Ch (fun q σ=>((σ.forget [1,5,8,9,10]).killAll []).tidy [] [(1,false),(5,false),(8,false),(9,false),(10,false)] [] [] []=⟨[(1,.pv (.int .i32 upto2)),(5,Vi q.1),(8,Vl Am.pv l1),(9,Vi (l1.length:Int)),(10,Vi q.2)],[]⟩) hj3 ?_ ?_
  ·show _=_
   kernel_rfl
  ·intro q σj3 oj3 hJj3 h
   obtain⟨n4,x5⟩:=q
   refine W.keep hJj3 ?_
   refine Ab Aw ?_
   refine Ar (t:=decide (x5<(l1.length:Int))) (by kernel_rfl) h (fun hc h'=>?_) (fun hc h'=>?_)
   ·replace h:=h'
    refine Ay ?_
    refine Bs ?_
    refine Ae ?_
    obtain⟨x6,hx6,h⟩:=Ag h
    refine Ab (Aj.dyn (Iw Am.pv l1 x5 x6 hx6) Aw) ?_
    refine Ae ?_
    refine Ab Aw ?_
    obtain⟨j7,hj7,h⟩:=Ag h
    refine W.join (j:=j7) (fun p σ=>σ.tidy [] [(1,false),(5,false),(8,false),(9,false),(10,false)] [] [.loc 7 0] []=⟨[(1,.pv (.int .i32 upto2)),(5,Vi p),(8,Vl Am.pv l1),(9,Vi (l1.length:Int)),(10,Vi x5)],[]⟩) ?_ (fun σj7 hsj7=>?_)
    ·replace h:=hj7
     refine De (t:=decide (x6.Cp≤upto2)) (by kernel_rfl) h (fun hc h'=>?_) (fun hc h'=>?_)
     ·replace h:=h'
      refine W.ops Aw ?_
      cases h
      exact Jw
     ·replace h:=h'
      cases h
      exact W.skip Jw
    ·refine W.keep hsj7 ?_
     refine W.ops Aw ?_
     cases h
     exact Ow
   ·replace h:=h'
    cases h
    exact Bp ((Bh B6 (D3 (by(show _=_);kernel_rfl))))
 ·refine An hsj3 ?_
  refine Ab Aw ?_
  refine W.keep rfl ?_
  cases h
  exact W.ret Fw
def A46:List GOp:=[o0 3 (.box (.tmp 0)),k0 6 0]
def A47:List GOp:=[f0 7 2 3,l0 8 1 7,m0 9 1,t0 10 5 3,m0 11 1,o0 12 (.call 0 0 (.cst (.fn 17)) [(.tmp 10),(.tmp 11)] [] []),o0 13 (.call 0 0 (.cst (.fn 43)) [(.tmp 8),(.tmp 9),(.tmp 12)] [] []),m0 14 2,o0 15 (.call 0 0 (.cst (.fn 44)) [(.tmp 13),(.tmp 14)] [] []),o0 16 (.bin false .sub (.cst (.int .i64 0)) (.tmp 15)),m0 6 16]
def Bgl:AC:=(.seq (.ops A46) (.seq (.draw [] A47) (.keep [] [(6,false)] [] [.loc 3 0] [] .ret)))
def Q43:Fd:=⟨3,[.tmp 6],[],Bgl⟩
theorem Ati:Bl Tryz.prog Tryz.f15 Q43=true:=by kernel_rfl
theorem Og{t1:Ah}{acc2:Int}{now3:Int}{r:Int}(h:Fu t1 acc2 now3=some r):A3 Tryz.prog 15 [.pv (Ah.pv t1),Vi acc2,.pv (.int .i32 now3)] [] ⟨Vi r,[],[]⟩:=by
 refine Ap hm Tryz.func15 Ati (by kernel_rfl) ?_
 unfold Fu at h
 refine Ab Aw ?_
 obtain⟨x4,hx4,h⟩:=Ag h
 obtain⟨x5,hx5,h⟩:=Ag h
 obtain⟨x6,hx6,h⟩:=Ag h
 refine Bx (Tw (Fi hx4) (Tw (J4 hx5) (Tw (Rj hx6) Ax))) (Dw 5 (Run.dyn (Kw 17 [] (Vi x4) Hw) (Run.dyn (Kw 43 [] (Vl Am.pv x5) (Ek rfl Hw)) (Dw 1 (Run.dyn (Kw 44 [] (Vi x6) (Ek rfl (Ek rfl Hw))) Cw))))) ?_
 refine W.keep rfl ?_
 cases h
 exact W.ret Fw
def A49:List GOp:=[o0 2 (.box (.tmp 0)),k0 4 0]
def A5a:List GOp:=[f0 7 4 2,l0 8 1 7,e0 9 8,k0 10 0]
def A5b:List GOp:=[p0 11 .lss 10 9]
def A5c:List GOp:=[i0 12 2 8 10,t0 13 2 12,o0 6 (.alloc [.pv (.int .i64 0),.pv (.int .i64 0)]),s0 2 6 13]
def A5d:List GOp:=[f0 14 0 6,l0 15 1 14,m0 16 1,p0 17 .eql 15 16]
def A5e:List GOp:=[f0 18 1 6,l0 19 1 18,m0 4 19]
def A5f:List GOp:=[q0 20 .add 10 1,m0 10 20]
def A48:AC:=(.keep [] [(1,false),(8,false),(9,false),(10,false)] [] [.loc 2 0,.loc 6 0] [] (.seq (.ops A5b) (.seq (.cond (.tmp 11) .skip (.exit 0)) (.seq (.pass 1 (.seq (.ops A5c) (.seq (.ops A5d) (.cond (.tmp 17) (.seq (.ops A5e) (.keep [] [(4,false)] [] [.loc 6 0] [] .ret)) .skip)))) (.ops A5f)))))
def A5g:List GOp:=[k0 4 0]
def Bgm:AC:=(.seq (.ops A49) (.seq (.seq (.ops A5a) (.block 0 (.loop [1,8,9,10] [] A48))) (.seq (.keep [] [] [] [.loc 2 0] [] (.ops A5g)) (.keep [] [(4,false)] [] [.loc 6 0] [] .ret))))
def Q44:Fd:=⟨2,[.tmp 4],[],Bgm⟩
theorem Atj:Bl Tryz.prog Tryz.f90 Q44=true:=by kernel_rfl
theorem Oi{t1:Ah}{acc2:Int}{r:Int}(h:Fv t1 acc2=some r):A3 Tryz.prog 90 [.pv (Ah.pv t1),Vi acc2] [] ⟨Vi r,[],[]⟩:=by
 refine Ap hm Tryz.func90 Atj (by kernel_rfl) ?_
 unfold Fv at h
 refine Ab Aw ?_
 refine Ae ?_
 refine Ab (Bw 2 (Aj.dyn (Lw Al.pv t1.A6) Aw)) ?_
 obtain⟨j3,hj3,h⟩:=Ag h
 refine Ck (j:=j3) (o:=r) (fun p σ=>σ.tidy [] [] [] [.loc 2 0] []=⟨[],[]⟩) ?_ (fun p σj3 hp hsj3=>?_) (fun p hp=>?_)
 ·refine B1 (fun q σ=>((σ.forget [1,8,9,10]).killAll []).tidy [] [(1,false),(8,false),(9,false),(10,false)] [] [.loc 2 0,.loc 6 0] []=⟨[(1,Vi acc2),(8,Vl Al.pv t1.A6),(9,Vi (t1.A6.length:Int)),(10,Vi q)],[]⟩) hj3 ?_ ?_
  ·show _=_
   kernel_rfl
  ·intro x4 σj3 oj3 hJj3 h
   refine W.keep hJj3 ?_
   refine Ab Aw ?_
   refine Ar (t:=decide (x4<(t1.A6.length:Int))) (by kernel_rfl) h (fun hc h'=>?_) (fun hc h'=>?_)
   ·replace h:=h'
    refine Ay ?_
    refine Bs ?_
    refine Ae ?_
    obtain⟨x5,hx5,h⟩:=Ag h
    refine Ab (Aj.dyn (Iw Al.pv t1.A6 x4 x5 hx5) Aw) ?_
    refine Ae ?_
    refine Ab Aw ?_
    refine Ar (t:=(x5.Az==acc2)) (by kernel_rfl) h (fun hc h'=>?_) (fun hc h'=>?_)
    ·replace h:=h'
     refine Ae ?_
     refine Ab Aw ?_
     refine An rfl ?_
     cases h
     exact A8 ((Bh Cd (Ed Cd Dh (fun e=>by subst e;exact Fw))))
    ·replace h:=h'
     refine Ay ?_
     refine W.ops Aw ?_
     cases h
     exact Ow
   ·replace h:=h'
    cases h
    exact Bp ((Bh B6 (Eh (by(show _=_);kernel_rfl))))
 ·subst hp
  obtain⟨⟩:=p
  refine An hsj3 ?_
  refine Ab Aw ?_
  refine W.keep rfl ?_
  cases h
  exact W.ret Fw
 ·subst hp
  exact Option.some.inj h
def A9r:List GOp:=[o0 3 (.box (.tmp 0)),k0 6 0]
def A9s:List GOp:=[t0 7 5 3,m0 8 1,m0 9 2,o0 10 (.call 0 0 (.cst (.fn 15)) [(.tmp 7),(.tmp 8),(.tmp 9)] [] []),t0 11 5 3,m0 12 1,o0 13 (.call 0 0 (.cst (.fn 90)) [(.tmp 11),(.tmp 12)] [] []),p0 14 .add 10 13,m0 6 14]
def Bhm:AC:=(.seq (.ops A9r) (.seq (.draw [] A9s) (.keep [] [(6,false)] [] [.loc 3 0] [] .ret)))
def Q69:Fd:=⟨3,[.tmp 6],[],Bhm⟩
theorem Avf:Bl Tryz.prog Tryz.f45 Q69=true:=by kernel_rfl
theorem K6{t1:Ah}{acc2:Int}{now3:Int}{r:Int}(h:Fm t1 acc2 now3=some r):A3 Tryz.prog 45 [.pv (Ah.pv t1),Vi acc2,.pv (.int .i32 now3)] [] ⟨Vi r,[],[]⟩:=by
 refine Ap hm Tryz.func45 Avf (by kernel_rfl) ?_
 unfold Fm at h
 refine Ab Aw ?_
 obtain⟨x4,hx4,h⟩:=Ag h
 obtain⟨x5,hx5,h⟩:=Ag h
 refine Bx (Tw (Og hx4) (Tw (Oi hx5) Ax)) (Dw 3 (Run.dyn (Kw 15 [] (Vi x4) Hw) (Dw 2 (Run.dyn (Kw 90 [] (Vi x5) (Ek rfl Hw)) Cw)))) ?_
 refine W.keep rfl ?_
 cases h
 exact W.ret Fw
def A7j:List GOp:=[o0 2 (.box (.tmp 0)),b0 4 false]
def A7k:List GOp:=[t0 6 9 2,o0 7 (.call 0 0 (.cst (.fn 57)) [(.tmp 6)] [] []),m0 5 7]
def A7l:List GOp:=[m0 8 5,m0 9 8,g0 10 9 true (.fld 8 (.tmp 2)),g0 11 9 true (.load false 1 (.tmp 10)),g0 12 9 true (.un .not (.tmp 11)),o0 13 (.pick (.tmp 9) (.tmp 12) (.cst (.bool false))),m0 14 13,g0 15 14 true (.fld 5 (.tmp 2)),g0 16 14 true (.load false 1 (.tmp 15)),g0 17 14 true (.mov (.tmp 1)),g0 18 14 true (.bin false .leq (.tmp 16) (.tmp 17)),o0 19 (.pick (.tmp 14) (.tmp 18) (.cst (.bool false))),m0 20 19,g0 21 20 true (.mov (.tmp 1)),g0 22 20 true (.fld 6 (.tmp 2)),g0 23 20 true (.load false 1 (.tmp 22)),g0 24 20 true (.bin false .leq (.tmp 21) (.tmp 23)),o0 25 (.pick (.tmp 20) (.tmp 24) (.cst (.bool false))),m0 4 25]
def Bg5:AC:=(.seq (.ops A7j) (.seq (.ops A7k) (.seq (.ops A7l) (.keep [] [(4,false)] [] [.loc 2 0] [] .ret))))
def Q54:Fd:=⟨2,[.tmp 4],[],Bg5⟩
theorem Auf:Bl Tryz.prog Tryz.f59 Q54=true:=by kernel_rfl
theorem Hx{h1:Aa}{now2:Int}{r:Bool}(h:Dp h1 now2=some r):A3 Tryz.prog 59 [.pv (Aa.pv h1),.pv (.int .i32 now2)] [] ⟨Vb r,[],[]⟩:=by
 refine Ap hm Tryz.func59 Auf (by kernel_rfl) ?_
 unfold Dp at h
 refine Ab Aw ?_
 obtain⟨x3,hx3,h⟩:=Ag h
 refine Ab (Bw 1 (Aj.cons (Tw (Hl hx3) Ax) (Kw 57 [] (Vb x3) Hw) Aw)) ?_
 obtain⟨c4,hc4,h⟩:=Ag h
 obtain⟨c5,hc5,h⟩:=Ag h
 refine Ab (Bw 2 (Aj.puts 4 [(13,Vb (x3&&(!h1.C4))),(12,(Bf x3 (Vb (!h1.C4)))),(11,(Bf x3 (Vb h1.C4))),(10,(Bf x3 (.ptr (.loc 2 0) 8)))] (by cases x3<;>kernel_rfl) (Aj.dyn (Nw (x3&&(!h1.C4)) c4 hc4) (Aj.puts 5 [(19,Vb (c4&&(decide (h1.B5≤now2)))),(18,(Bf c4 (Vb (decide (h1.B5≤now2))))),(17,(Bf c4 (.pv (.int .i32 now2)))),(16,(Bf c4 (.pv (.int .i32 h1.B5)))),(15,(Bf c4 (.ptr (.loc 2 0) 5)))] (by cases c4<;>kernel_rfl) (Aj.dyn (Nw (c4&&(decide (h1.B5≤now2))) c5 hc5) (Aj.puts 5 [(25,Vb (c5&&(decide (now2≤h1.Cb)))),(24,(Bf c5 (Vb (decide (now2≤h1.Cb))))),(23,(Bf c5 (.pv (.int .i32 h1.Cb)))),(22,(Bf c5 (.ptr (.loc 2 0) 6))),(21,(Bf c5 (.pv (.int .i32 now2))))] (by cases c5<;>kernel_rfl) Aw)))))) ?_
 refine W.keep rfl ?_
 cases h
 exact W.ret Fw
def A7m:List GOp:=[o0 2 (.box (.tmp 0)),k0 4 0]
def A7n:List GOp:=[t0 6 9 2,m0 7 1,o0 8 (.call 0 0 (.cst (.fn 59)) [(.tmp 6),(.tmp 7)] [] []),m0 5 8]
def A7o:List GOp:=[m0 9 5,o0 10 (.un .not (.tmp 9))]
def A7p:List GOp:=[k0 4 0]
def A7q:List GOp:=[f0 11 2 2,f0 12 1 11,l0 13 1 12,f0 14 7 2,l0 15 1 14,p0 16 .sub 13 15,m0 4 16]
def Bg6:AC:=(.seq (.ops A7m) (.seq (.ops A7n) (.seq (.seq (.ops A7o) (.cond (.tmp 10) (.seq (.ops A7p) (.keep [] [(4,false)] [] [.loc 2 0] [] .ret)) .skip)) (.seq (.ops A7q) (.keep [] [(4,false)] [] [.loc 2 0] [] .ret)))))
def Q55:Fd:=⟨2,[.tmp 4],[],Bg6⟩
theorem Aug:Bl Tryz.prog Tryz.f91 Q55=true:=by kernel_rfl
theorem J5{h1:Aa}{now2:Int}{r:Int}(h:Dq h1 now2=some r):A3 Tryz.prog 91 [.pv (Aa.pv h1),.pv (.int .i32 now2)] [] ⟨Vi r,[],[]⟩:=by
 refine Ap hm Tryz.func91 Aug (by kernel_rfl) ?_
 unfold Dq at h
 refine Ab Aw ?_
 obtain⟨x3,hx3,h⟩:=Ag h
 refine Ab (Bw 2 (Aj.cons (Tw (Hx hx3) Ax) (Kw 59 [] (Vb x3) Hw) Aw)) ?_
 refine Ae ?_
 refine Ab Aw ?_
 refine Ar (t:= !x3) (by kernel_rfl) h (fun hc h'=>?_) (fun hc h'=>?_)
 ·replace h:=h'
  refine Ae ?_
  refine Ab Aw ?_
  refine An rfl ?_
  cases h
  exact A8 Fw
 ·replace h:=h'
  refine Ay ?_
  refine Ab Aw ?_
  refine W.keep rfl ?_
  cases h
  exact W.ret Fw
def A9v:List GOp:=[k0 10 0]
def A9w:List GOp:=[k0 11 0]
def A9x:List GOp:=[k0 12 0]
def A9y:List GOp:=[m0 13 12,m0 14 0,e0 15 14,p0 16 .lss 13 15]
def A9z:List GOp:=[m0 19 0,m0 20 12,i0 21 9 19 20,f0 22 1 21,l0 23 1 22,m0 24 1,p0 25 .eql 23 24,m0 26 25,g0 27 26 true (.mov (.tmp 0)),g0 28 26 true (.mov (.tmp 12)),g0 29 26 true (.idx 9 (.tmp 27) (.tmp 28)),g0 30 26 true (.fld 2 (.tmp 29)),g0 31 26 true (.fld 0 (.tmp 30)),g0 32 26 true (.load false 1 (.tmp 31)),g0 33 26 true (.mov (.tmp 2)),g0 34 26 true (.bin false .eql (.tmp 32) (.tmp 33)),o0 35 (.pick (.tmp 26) (.tmp 34) (.cst (.bool false))),m0 36 35,g0 37 36 true (.mov (.tmp 0)),g0 38 36 true (.mov (.tmp 12)),g0 39 36 true (.idx 9 (.tmp 37) (.tmp 38)),g0 40 36 true (.fld 4 (.tmp 39)),g0 41 36 true (.load false 1 (.tmp 40)),g0 42 36 true (.mov (.tmp 4)),g0 43 36 true (.bin false .geq (.tmp 41) (.tmp 42)),o0 44 (.pick (.tmp 36) (.tmp 43) (.cst (.bool false)))]
def A90:List GOp:=[m0 45 11,m0 46 0,m0 47 12,i0 48 9 46 47,t0 49 9 48,m0 50 3,o0 51 (.call 0 0 (.cst (.fn 91)) [(.tmp 49),(.tmp 50)] [] []),p0 52 .add 45 51,m0 11 52]
def A91:List GOp:=[m0 17 12,q0 18 .add 17 1,m0 12 18]
def A9u:AC:=(.keep [] [(0,false),(1,false),(2,false),(3,false),(4,false),(11,false),(12,false)] [] [] [] (.seq (.seq (.ops A9y) (.cond (.tmp 16) .skip (.exit 0))) (.seq (.pass 1 (.seq (.ops A9z) (.cond (.tmp 44) (.ops A90) .skip))) (.keep [] [(0,false),(1,false),(2,false),(3,false),(4,false),(11,false),(12,false)] [] [] [] (.ops A91)))))
def A92:List GOp:=[m0 53 11,m0 10 53]
def Bhw:AC:=(.seq (.ops A9v) (.seq (.ops A9w) (.seq (.seq (.ops A9x) (.block 0 (.loop [0,1,2,3,4,11,12] [] A9u))) (.seq (.keep [] [(11,false)] [] [] [] (.ops A92)) (.keep [] [(10,false)] [] [] [] .ret)))))
def Q70:Fd:=⟨5,[.tmp 10],[],Bhw⟩
theorem Avg:Bl Tryz.prog Tryz.f46 Q70=true:=by kernel_rfl
theorem Py{l1:List Aa}{acc2:Int}{cur3:Int}{now4:Int}{rank5:Int}{r:Int}(h:Gr l1 acc2 cur3 now4 rank5=some r):A3 Tryz.prog 46 [Vl Aa.pv l1,Vi acc2,Vi cur3,.pv (.int .i32 now4),Vi rank5] [] ⟨Vi r,[],[]⟩:=by
 refine Ap hm Tryz.func46 Avg (by kernel_rfl) ?_
 unfold Gr at h
 refine Ab Aw ?_
 refine Ab Aw ?_
 refine Ae ?_
 refine Ab Aw ?_
 obtain⟨j6,hj6,h⟩:=Ag h
 refine W.join (j:=j6) (fun p σ=>σ.tidy [] [(11,false)] [] [] []=⟨[(11,Vi p)],[]⟩) ?_ (fun σj6 hsj6=>?_)
 ·refine Ch (fun q σ=>((σ.forget [0,1,2,3,4,11,12]).killAll []).tidy [] [(0,false),(1,false),(2,false),(3,false),(4,false),(11,false),(12,false)] [] [] []=⟨[(0,Vl Aa.pv l1),(1,Vi acc2),(2,Vi cur3),(3,.pv (.int .i32 now4)),(4,Vi rank5),(11,Vi q.1),(12,Vi q.2)],[]⟩) hj6 ?_ ?_
  ·show _=_
   kernel_rfl
  ·intro q σj6 oj6 hJj6 h
   obtain⟨n7,i8⟩:=q
   refine W.keep hJj6 ?_
   refine Ae ?_
   refine Ab (Bw 2 (Aj.dyn (Lw Aa.pv l1) Aw)) ?_
   refine Ar (t:=decide (i8<(l1.length:Int))) (by kernel_rfl) h (fun hc h'=>?_) (fun hc h'=>?_)
   ·replace h:=h'
    refine Ay ?_
    refine Bs ?_
    refine Ae ?_
    obtain⟨x9,hx9,h⟩:=Ag h
    obtain⟨c10,hc10,h⟩:=Ag h
    obtain⟨x11,hx11,h⟩:=Ag h
    obtain⟨c12,hc12,h⟩:=Ag h
    obtain⟨x13,hx13,h⟩:=Ag h
    refine Ab (Bw 2 (Aj.dyn (Iw Aa.pv l1 i8 x9 hx9) (Bw 4 (Aj.dyn (Nw (x9.Az==acc2) c10 hc10) (Aj.puts 2 [(28,(Bf c10 (Vi i8))),(27,(Bf c10 (Vl Aa.pv l1)))] (by cases c10<;>kernel_rfl) (Aj.dyn (Bn c10 (by kernel_rfl) (by
       cases c10
       ·exact .inl ⟨by kernel_rfl,by kernel_rfl⟩
       ·exact .inr ⟨by kernel_rfl,by kernel_rfl,Iw Aa.pv l1 i8 x11 hx11⟩)) (Aj.puts 6 [(35,Vb (c10&&(x11.Ak.Bb==cur3))),(34,(Bf c10 (Vb (x11.Ak.Bb==cur3)))),(33,(Bf c10 (Vi cur3))),(32,(Bf c10 (Vi x11.Ak.Bb))),(31,(Bf c10 (.ipv (Aa.pv x11) 2))),(30,(Bf c10 (.ipv (Aa.pv x11) 2)))] (by cases c10<;>kernel_rfl) (Aj.dyn (Nw (c10&&(x11.Ak.Bb==cur3)) c12 hc12) (Aj.puts 2 [(38,(Bf c12 (Vi i8))),(37,(Bf c12 (Vl Aa.pv l1)))] (by cases c12<;>kernel_rfl) (Aj.dyn (Bn c12 (by kernel_rfl) (by
       cases c12
       ·exact .inl ⟨by kernel_rfl,by kernel_rfl⟩
       ·exact .inr ⟨by kernel_rfl,by kernel_rfl,Iw Aa.pv l1 i8 x13 hx13⟩)) (Aj.puts 5 [(44,Vb (c12&&(decide (x13.A9≥rank5)))),(43,(Bf c12 (Vb (decide (x13.A9≥rank5))))),(42,(Bf c12 (Vi rank5))),(41,(Bf c12 (Vi x13.A9))),(40,(Bf c12 (.ipv (Aa.pv x13) 4)))] (by cases c12<;>kernel_rfl) ((.nil _))))))))))))) ?_
    obtain⟨j14,hj14,h⟩:=Ag h
    refine W.join (j:=j14) (fun p σ=>σ.tidy [] [(0,false),(1,false),(2,false),(3,false),(4,false),(11,false),(12,false)] [] [] []=⟨[(0,Vl Aa.pv l1),(1,Vi acc2),(2,Vi cur3),(3,.pv (.int .i32 now4)),(4,Vi rank5),(11,Vi p),(12,Vi i8)],[]⟩) ?_ (fun σj14 hsj14=>?_)
    ·replace h:=hj14
     refine De (t:=(c12&&(decide (x13.A9≥rank5)))) (by kernel_rfl) h (fun hc h'=>?_) (fun hc h'=>?_)
     ·replace h:=h'
      obtain⟨x15,hx15,h⟩:=Ag h
      obtain⟨x16,hx16,h⟩:=Ag h
      refine W.ops (Bw 3 (Aj.dyn (Iw Aa.pv l1 i8 x15 hx15) (Bw 2 (Aj.cons (Tw (J5 hx16) Ax) (Kw 91 [] (Vi x16) Hw) Aw)))) ?_
      cases h
      exact Jw
     ·replace h:=h'
      cases h
      exact W.skip Jw
    ·refine W.keep hsj14 ?_
     refine W.ops Aw ?_
     cases h
     exact Ow
   ·replace h:=h'
    cases h
    exact Bp ((Bh B6 (D3 (by(show _=_);kernel_rfl))))
 ·refine An hsj6 ?_
  refine Ab Aw ?_
  refine W.keep rfl ?_
  cases h
  exact W.ret Fw
def A7r:List GOp:=[o0 4 (.box (.tmp 0)),k0 8 0]
def A7s:List GOp:=[t0 9 5 4,m0 10 1,m0 11 2,o0 12 (.call 0 0 (.cst (.fn 45)) [(.tmp 9),(.tmp 10),(.tmp 11)] [] []),f0 13 3 4,l0 14 1 13,m0 15 1,t0 16 5 4,m0 17 1,o0 18 (.call 0 0 (.cst (.fn 17)) [(.tmp 16),(.tmp 17)] [] []),m0 19 2,m0 20 3,o0 21 (.call 0 0 (.cst (.fn 46)) [(.tmp 14),(.tmp 15),(.tmp 18),(.tmp 19),(.tmp 20)] [] []),p0 22 .sub 12 21,m0 8 22]
def Bg7:AC:=(.seq (.ops A7r) (.seq (.draw [] A7s) (.keep [] [(8,false)] [] [.loc 4 0] [] .ret)))
def Q56:Fd:=⟨4,[.tmp 8],[],Bg7⟩
theorem Auh:Bl Tryz.prog Tryz.f16 Q56=true:=by kernel_rfl
theorem Pi{t1:Ah}{acc2:Int}{now3:Int}{rank4:Int}{r:Int}(h:Gb t1 acc2 now3 rank4=some r):A3 Tryz.prog 16 [.pv (Ah.pv t1),Vi acc2,.pv (.int .i32 now3),Vi rank4] [] ⟨Vi r,[],[]⟩:=by
 refine Ap hm Tryz.func16 Auh (by kernel_rfl) ?_
 unfold Gb at h
 refine Ab Aw ?_
 obtain⟨x5,hx5,h⟩:=Ag h
 obtain⟨x6,hx6,h⟩:=Ag h
 obtain⟨x7,hx7,h⟩:=Ag h
 refine Bx (Tw (K6 hx5) (Tw (Fi hx6) (Tw (Py hx7) Ax))) (Dw 3 (Run.dyn (Kw 45 [] (Vi x5) Hw) (Dw 5 (Run.dyn (Kw 17 [] (Vi x6) (Ek rfl Hw)) (Dw 2 (Run.dyn (Kw 46 [] (Vi x7) (Ek rfl (Ek rfl Hw))) Cw)))))) ?_
 refine W.keep rfl ?_
 cases h
 exact W.ret Fw
def A7t:List GOp:=[o0 2 (.box (.tmp 0)),o0 4 (.alloc [.nils,.nils,.nils,.nils,.nils])]
def A7u:List GOp:=[m0 5 1,f0 6 3 2,s0 1 6 5]
def A7v:List GOp:=[t0 7 5 2,s0 5 4 7]
def Bg8:AC:=(.seq (.ops A7t) (.seq (.ops A7u) (.seq (.ops A7v) (.keep [] [(4,false)] [(.loc 4 0,false)] [.loc 2 0] [] .ret))))
def Q57:Fd:=⟨2,[.cell 4 true 5],[],Bg8⟩
theorem Aui:Bl Tryz.prog Tryz.f23 Q57=true:=by kernel_rfl
theorem J7{t1:Ah}{l2:List Aa}{r:Ah}(h:Gc t1 l2=some r):A3 Tryz.prog 23 [.pv (Ah.pv t1),Vl Aa.pv l2] [] ⟨.pv (Ah.pv r),[],[]⟩:=by
 refine Ap hm Tryz.func23 Aui (by kernel_rfl) ?_
 unfold Gc at h
 refine Ab Aw ?_
 refine Ab Aw ?_
 refine Ab Aw ?_
 refine W.keep rfl ?_
 cases h
 exact W.ret Fw
def A7x:List GOp:=[o0 5 (.box (.tmp 2)),o0 6 (.mov .nils)]
def A7y:List GOp:=[o0 7 (.mov .nils)]
def A7z:List GOp:=[k0 8 0]
def A70:List GOp:=[m0 9 8,m0 10 0,e0 11 10,p0 12 .lss 9 11]
def A71:List GOp:=[m0 15 8,m0 16 1,p0 17 .eql 15 16]
def A72:List GOp:=[m0 18 7,t0 19 9 5,o0 20 (.lit false 9 [(.tmp 19)]),o0 21 (.append 7 9 64 (.tmp 18) (.tmp 20)),m0 7 21]
def A73:List GOp:=[m0 22 7,m0 23 0,m0 24 8,i0 25 9 23 24,t0 26 9 25,o0 27 (.lit false 9 [(.tmp 26)]),o0 28 (.append 7 9 64 (.tmp 22) (.tmp 27)),m0 7 28]
def A74:List GOp:=[m0 13 8,q0 14 .add 13 1,m0 8 14]
def A7w:AC:=(.keep [] [(0,false),(1,false),(5,false),(7,false),(8,false)] [(.loc 7 0,false),(.loc 5 0,false)] [] [.slot 7 (.loc 7 0) 9] (.seq (.seq (.ops A70) (.cond (.tmp 12) .skip (.exit 0))) (.seq (.pass 1 (.seq (.ops A71) (.cond (.tmp 17) (.ops A72) (.ops A73)))) (.keep [] [(0,false),(1,false),(5,false),(7,false),(8,false)] [(.loc 7 0,false),(.loc 5 0,false)] [] [] (.ops A74)))))
def A75:List GOp:=[m0 29 7,m0 6 29]
def Bg9:AC:=(.seq (.ops A7x) (.seq (.ops A7y) (.seq (.seq (.ops A7z) (.block 0 (.loop [0,1,5,7,8] [] A7w))) (.seq (.keep [.loc 7 0] [(7,true)] [] [.loc 5 0] [] (.ops A75)) (.keep [] [(6,false)] [] [] [] .ret)))))
def Q58:Fd:=⟨3,[.tmp 6],[],Bg9⟩
theorem Auj:Bl Tryz.prog Tryz.f61 Q58=true:=by kernel_rfl
theorem Ph{l1:List Aa}{at_2:Int}{h3:Aa}{r:List Aa}(h:Ga l1 at_2 h3=some r):A3 Tryz.prog 61 [Vl Aa.pv l1,Vi at_2,.pv (Aa.pv h3)] [] ⟨Vl Aa.pv r,[],[]⟩:=by
 refine Ap hm Tryz.func61 Auj (by kernel_rfl) ?_
 unfold Ga at h
 refine Ab Aw ?_
 refine Ab Aw ?_
 refine Ae ?_
 refine Ab Aw ?_
 obtain⟨j4,hj4,h⟩:=Ag h
 refine W.join (j:=j4) (fun p σ=>σ.tidy [.loc 7 0] [(7,true)] [] [.loc 5 0] []=⟨[(7,Vl Aa.pv p)],[]⟩) ?_ (fun σj4 hsj4=>?_)
 ·refine Ch (fun q σ=>((σ.forget [0,1,5,7,8]).killAll []).tidy [] [(0,false),(1,false),(5,false),(7,false),(8,false)] [(.loc 7 0,false),(.loc 5 0,false)] [] [.slot 7 (.loc 7 0) 9]=⟨[(0,Vl Aa.pv l1),(1,Vi at_2),(5,.ptr (.loc 5 0) 0),(7,.own (.loc 7 0)),(8,Vi q.1)],[(.loc 7 0,.row 9 (List.map Aa.pv q.2)),(.loc 5 0,.box [Vi h3.Bc,Vi h3.Az,Vi h3.Ak.Bb,Vi h3.Ak.Ao,Vi h3.A9,.pv (.int .i32 h3.B5),.pv (.int .i32 h3.Cb),Vi h3.Bo,Vb h3.C4])]⟩) hj4 ?_ ?_
  ·show _=_
   kernel_rfl
  ·intro q σj4 oj4 hJj4 h
   obtain⟨i5,row6⟩:=q
   refine W.keep hJj4 ?_
   refine Ae ?_
   refine Ab (Bw 2 (Aj.dyn (Lw Aa.pv l1) Aw)) ?_
   refine Ar (t:=decide (i5<(l1.length:Int))) (by kernel_rfl) h (fun hc h'=>?_) (fun hc h'=>?_)
   ·replace h:=h'
    refine Ay ?_
    refine Bs ?_
    refine Ae ?_
    refine Ab Aw ?_
    obtain⟨j7,hj7,h⟩:=Ag h
    refine W.join (j:=j7) (fun p σ=>σ.tidy [] [(0,false),(1,false),(5,false),(7,false),(8,false)] [(.loc 7 0,false),(.loc 5 0,false)] [] []=⟨[(0,Vl Aa.pv l1),(1,Vi at_2),(5,.ptr (.loc 5 0) 0),(7,.own (.loc 7 0)),(8,Vi i5)],[(.loc 7 0,.row 9 (List.map Aa.pv p)),(.loc 5 0,.box [Vi h3.Bc,Vi h3.Az,Vi h3.Ak.Bb,Vi h3.Ak.Ao,Vi h3.A9,.pv (.int .i32 h3.B5),.pv (.int .i32 h3.Cb),Vi h3.Bo,Vb h3.C4])]⟩) ?_ (fun σj7 hsj7=>?_)
    ·replace h:=hj7
     refine De (t:=(i5==at_2)) (by kernel_rfl) h (fun hc h'=>?_) (fun hc h'=>?_)
     ·replace h:=h'
      obtain⟨x8,hx8,h⟩:=Ag h
      refine W.ops (Bw 3 (Aj.dyn (C5 (k:= .loc 7 0) (f:=Aa.pv) (l:=row6) (m:=[h3]) (by kernel_rfl) (by kernel_rfl) (by kernel_rfl) hx8 (fun _=>rfl) (by kernel_rfl)) Aw)) ?_
      cases h
      exact Jw
     ·replace h:=h'
      obtain⟨x9,hx9,h⟩:=Ag h
      obtain⟨x10,hx10,h⟩:=Ag h
      refine W.ops (Bw 3 (Aj.dyn (Iw Aa.pv l1 i5 x9 hx9) (Bw 2 (Aj.dyn (C5 (k:= .loc 7 0) (f:=Aa.pv) (l:=row6) (m:=[x9]) (by kernel_rfl) (by kernel_rfl) (by kernel_rfl) hx10 (fun _=>rfl) (by kernel_rfl)) Aw)))) ?_
      cases h
      exact Jw
    ·refine W.keep hsj7 ?_
     refine W.ops Aw ?_
     cases h
     exact Ow
   ·replace h:=h'
    cases h
    exact Bp ((Bh B6 (D3 (by(show _=_);kernel_rfl))))
 ·refine An hsj4 ?_
  refine Ab Aw ?_
  refine W.keep rfl ?_
  cases h
  exact W.ret Fw
def A2e:List GOp:=[o0 7 (.box (.tmp 2)),o0 10 (.mov .nils),k0 11 0]
def A2f:List GOp:=[m0 16 0,m0 17 1,o0 18 (.call 0 0 (.cst (.fn 58)) [(.tmp 16),(.tmp 17)] [] []),m0 12 18]
def A2g:List GOp:=[m0 19 12,q0 20 .lss 19 0]
def A2h:List GOp:=[o0 10 (.mov .nils),k0 11 8]
def A2i:List GOp:=[m0 21 0,m0 22 12,i0 23 9 21 22,t0 24 9 23,o0 13 (.alloc [.pv (.int .i64 0),.pv (.int .i64 0),.pv (.int .i64 0),.pv (.int .i64 0),.pv (.int .i64 0),.pv (.int .i32 0),.pv (.int .i32 0),.pv (.int .i64 0),.pv (.bool false)]),s0 9 13 24]
def A2j:List GOp:=[t0 25 9 13,m0 26 3,o0 27 (.call 0 0 (.cst (.fn 59)) [(.tmp 25),(.tmp 26)] [] []),m0 14 27]
def A2k:List GOp:=[m0 28 14,o0 29 (.un .not (.tmp 28))]
def A2l:List GOp:=[o0 10 (.mov .nils),k0 11 27]
def A2m:List GOp:=[f0 30 0 7,l0 31 1 30,f0 32 2 13,f0 33 0 32,l0 34 1 33,p0 35 .neq 31 34]
def A2n:List GOp:=[o0 10 (.mov .nils),k0 11 12]
def Asa:List GOp:=[t0 36 2 7,o0 37 (.call 0 0 (.cst (.fn 60)) [(.tmp 36)] [] []),m0 15 37]
def Asb:List GOp:=[m0 38 15,o0 39 (.un .not (.tmp 38)),m0 40 39,g0 41 40 false (.fld 1 (.tmp 7)),g0 42 40 false (.load false 1 (.tmp 41)),g0 43 40 false (.bin false .lss (.tmp 42) (.cst (.int .i64 1))),o0 44 (.pick (.tmp 40) (.cst (.bool true)) (.tmp 43))]
def Asd:List GOp:=[o0 10 (.mov .nils),k0 11 1]
def Ase:List GOp:=[f0 45 1 7,l0 46 1 45,f0 47 2 13,f0 48 1 47,l0 49 1 48,f0 50 7 13,l0 51 1 50,p0 52 .sub 49 51,p0 53 .gtr 46 52]
def Asf:List GOp:=[o0 10 (.mov .nils),k0 11 17]
def Asg:List GOp:=[f0 54 7 13,l0 55 1 54,f0 56 1 7,l0 57 1 56,p0 58 .add 55 57,f0 59 7 13,s0 1 59 58]
def Ash:List GOp:=[m0 60 4,m0 61 60,g0 62 61 false (.fld 7 (.tmp 13)),g0 63 61 false (.load false 1 (.tmp 62)),g0 64 61 false (.fld 2 (.tmp 13)),g0 65 61 false (.fld 1 (.tmp 64)),g0 66 61 false (.load false 1 (.tmp 65)),g0 67 61 false (.bin false .eql (.tmp 63) (.tmp 66)),o0 68 (.pick (.tmp 61) (.cst (.bool true)) (.tmp 67)),f0 69 8 13,s0 1 69 68]
def Asi:List GOp:=[m0 70 0,m0 71 12,t0 72 9 13,o0 73 (.call 0 0 (.cst (.fn 61)) [(.tmp 70),(.tmp 71),(.tmp 72)] [] []),m0 10 73,k0 11 0]
def Bfv:AC:=(.seq (.ops A2e) (.seq (.ops A2f) (.seq (.seq (.ops A2g) (.cond (.tmp 20) (.seq (.ops A2h) (.keep [] [(10,true),(11,false)] [] [.loc 13 0,.loc 7 0] [] .ret)) .skip)) (.seq (.ops A2i) (.seq (.ops A2j) (.seq (.seq (.ops A2k) (.cond (.tmp 29) (.seq (.ops A2l) (.keep [] [(10,true),(11,false)] [] [.loc 13 0,.loc 7 0] [] .ret)) .skip)) (.seq (.seq (.ops A2m) (.cond (.tmp 35) (.seq (.ops A2n) (.keep [] [(10,true),(11,false)] [] [.loc 13 0,.loc 7 0] [] .ret)) .skip)) (.seq (.ops Asa) (.seq (.seq (.ops Asb) (.cond (.tmp 44) (.seq (.ops Asd) (.keep [] [(10,true),(11,false)] [] [.loc 13 0,.loc 7 0] [] .ret)) .skip)) (.seq (.seq (.ops Ase) (.cond (.tmp 53) (.seq (.ops Asf) (.keep [] [(10,true),(11,false)] [] [.loc 13 0,.loc 7 0] [] .ret)) .skip)) (.seq (.ops Asg) (.seq (.ops Ash) (.seq (.ops Asi) (.keep [] [(10,true),(11,false)] [] [.loc 13 0,.loc 7 0] [] .ret))))))))))))))
def Q29:Fd:=⟨5,[.tmp 10,.tmp 11],[],Bfv⟩
theorem Ar9:Bl Tryz.prog Tryz.f24 Q29=true:=by kernel_rfl
theorem M9{l1:List Aa}{id2:Int}{amount3:A5}{now4:Int}{last5:Bool}{r:(List Aa)×Int}(h:Da l1 id2 amount3 now4 last5=some r):A3 Tryz.prog 24 [Vl Aa.pv l1,Vi id2,.pv (A5.pv amount3),.pv (.int .i32 now4),Vb last5] [] ⟨.tup [Vl Aa.pv r.1,Vi r.2],[],[]⟩:=by
 refine Ap hm Tryz.func24 Ar9 (by kernel_rfl) ?_
 unfold Da at h
 refine Ab Aw ?_
 obtain⟨x6,hx6,h⟩:=Ag h
 refine Ab (Bw 2 (Aj.cons (Tw (J6 hx6) Ax) (Kw 58 [] (Vi x6) Hw) Aw)) ?_
 refine Ae ?_
 refine Ab Aw ?_
 refine Ar (t:=decide (x6<0)) (by kernel_rfl) h (fun hc h'=>?_) (fun hc h'=>?_)
 ·replace h:=h'
  refine Ae ?_
  refine Ab Aw ?_
  refine An rfl ?_
  cases h
  exact A8 Fw
 ·replace h:=h'
  refine Ay ?_
  obtain⟨x7,hx7,h⟩:=Ag h
  refine Ab (Bw 2 (Aj.dyn (Iw Aa.pv l1 x6 x7 hx7) Aw)) ?_
  obtain⟨x8,hx8,h⟩:=Ag h
  refine Ab (Bw 2 (Aj.cons (Tw (Hx hx8) Ax) (Kw 59 [] (Vb x8) Hw) Aw)) ?_
  refine Ae ?_
  refine Ab Aw ?_
  refine Ar (t:= !x8) (by kernel_rfl) h (fun hc h'=>?_) (fun hc h'=>?_)
  ·replace h:=h'
   refine Ae ?_
   refine Ab Aw ?_
   refine An rfl ?_
   cases h
   exact A8 Fw
  ·replace h:=h'
   refine Ay ?_
   refine Ae ?_
   refine Ab Aw ?_
   refine Ar (t:=(amount3.Bb !=x7.Ak.Bb)) (by kernel_rfl) h (fun hc h'=>?_) (fun hc h'=>?_)
   ·replace h:=h'
    refine Ae ?_
    refine Ab Aw ?_
    refine An rfl ?_
    cases h
    exact A8 Fw
   ·replace h:=h'
    refine Ay ?_
    obtain⟨x9,hx9,h⟩:=Ag h
    refine Ab (Bw 1 (Aj.cons (Tw (Jn hx9) Ax) (Kw 60 [] (Vb x9) Hw) Aw)) ?_
    refine Ae ?_
    obtain⟨c10,hc10,h⟩:=Ag h
    refine Ab (Bw 2 (Aj.dyn (Nw (!x9) c10 hc10) (Aj.puts 4 [(44,Vb (c10||(decide (amount3.Ao<1)))),(43,(Bf (!c10) (Vb (decide (amount3.Ao<1))))),(42,(Bf (!c10) (Vi amount3.Ao))),(41,(Bf (!c10) (.ptr (.loc 7 0) 1)))] (by cases c10<;>kernel_rfl) ((.nil _))))) ?_
    refine Ar (t:=(c10||(decide (amount3.Ao<1)))) (by kernel_rfl) h (fun hc h'=>?_) (fun hc h'=>?_)
    ·replace h:=h'
     refine Ae ?_
     refine Ab Aw ?_
     refine An rfl ?_
     cases h
     exact A8 Fw
    ·replace h:=h'
     refine Ay ?_
     refine Ae ?_
     refine Ab Aw ?_
     refine Ar (t:=decide (amount3.Ao>(IntKind.wrap .i64 (x7.Ak.Ao-x7.Bo)))) (by kernel_rfl) h (fun hc h'=>?_) (fun hc h'=>?_)
     ·replace h:=h'
      refine Ae ?_
      refine Ab Aw ?_
      refine An rfl ?_
      cases h
      exact A8 Fw
     ·replace h:=h'
      refine Ay ?_
      refine Ab Aw ?_
      refine Ab (Bw 2 (Aj.puts 7 [(68,Vb (last5||((IntKind.wrap .i64 (x7.Bo+amount3.Ao))==x7.Ak.Ao))),(67,(Bf (!last5) (Vb ((IntKind.wrap .i64 (x7.Bo+amount3.Ao))==x7.Ak.Ao)))),(66,(Bf (!last5) (Vi x7.Ak.Ao))),(65,(Bf (!last5) (.ptr (.loc 13 0) 3))),(64,(Bf (!last5) (.ptr (.loc 13 0) 2))),(63,(Bf (!last5) (Vi (IntKind.wrap .i64 (x7.Bo+amount3.Ao))))),(62,(Bf (!last5) (.ptr (.loc 13 0) 7)))] (by cases last5<;>kernel_rfl) Aw)) ?_
      obtain⟨x11,hx11,h⟩:=Ag h
      refine Ab (Bw 3 (Aj.cons (Tw (Ph hx11) Ax) (Kw 61 [] (Vl Aa.pv x11) Hw) Aw)) ?_
      refine W.keep rfl ?_
      cases h
      exact W.ret Fw
def A77:List GOp:=[o0 4 (.alloc [.pv (.int .i64 0),.pv (.int .i64 0),.pv (.int .i64 0),.pv (.int .i64 0),.pv (.int .i64 0),.pv (.int .i32 0),.pv (.int .i32 0),.pv (.int .i64 0),.pv (.bool false)])]
def A78:List GOp:=[m0 7 0,e0 8 7,k0 9 0]
def A79:List GOp:=[p0 10 .lss 9 8]
def A8a:List GOp:=[i0 11 9 7 9,t0 12 9 11,o0 6 (.alloc [.pv (.int .i64 0),.pv (.int .i64 0),.pv (.int .i64 0),.pv (.int .i64 0),.pv (.int .i64 0),.pv (.int .i32 0),.pv (.int .i32 0),.pv (.int .i64 0),.pv (.bool false)]),s0 9 6 12]
def A8b:List GOp:=[f0 13 0 6,l0 14 1 13,m0 15 1,p0 16 .eql 14 15]
def A8c:List GOp:=[t0 17 9 6,s0 9 4 17]
def A8d:List GOp:=[q0 18 .add 9 1,m0 9 18]
def A76:AC:=(.keep [] [(1,false),(4,false),(7,false),(8,false),(9,false)] [(.loc 4 0,false)] [.loc 6 0] [] (.seq (.ops A79) (.seq (.cond (.tmp 10) .skip (.exit 0)) (.seq (.pass 1 (.seq (.ops A8a) (.seq (.ops A8b) (.cond (.tmp 16) (.seq (.ops A8c) (.keep [] [(4,false)] [(.loc 4 0,false)] [.loc 6 0] [] .ret)) .skip)))) (.ops A8d)))))
def A8e:List GOp:=[o0 19 (.build [.pv (.int .i64 0),.pv (.int .i64 0),.pv (.int .i64 0),.pv (.int .i64 0),.pv (.int .i64 0),.pv (.int .i32 0),.pv (.int .i32 0),.pv (.int .i64 0),.pv (.bool false)] []),s0 9 4 19]
def Bha:AC:=(.seq (.ops A77) (.seq (.seq (.ops A78) (.block 0 (.loop [1,4,7,8,9] [] A76))) (.seq (.keep [] [(4,false)] [(.loc 4 0,false)] [] [] (.ops A8e)) (.keep [] [(4,false)] [(.loc 4 0,false)] [.loc 6 0] [] .ret))))
def Q59:Fd:=⟨2,[.cell 4 true 9],[],Bha⟩
theorem Auk:Bl Tryz.prog Tryz.f25 Q59=true:=by kernel_rfl
theorem Pj{l1:List Aa}{id2:Int}{r:Aa}(h:Ei l1 id2=some r):A3 Tryz.prog 25 [Vl Aa.pv l1,Vi id2] [] ⟨.pv (Aa.pv r),[],[]⟩:=by
 refine Ap hm Tryz.func25 Auk (by kernel_rfl) ?_
 unfold Ei at h
 refine Ab Aw ?_
 refine Ae ?_
 refine Ab (Bw 1 (Aj.dyn (Lw Aa.pv l1) Aw)) ?_
 obtain⟨j3,hj3,h⟩:=Ag h
 refine Ck (j:=j3) (o:=r) (fun p σ=>σ.tidy [] [(4,false)] [(.loc 4 0,false)] [] []=⟨[(4,.ptr (.loc 4 0) 0)],[(.loc 4 0,.box [Vi 0,Vi 0,Vi 0,Vi 0,Vi 0,.pv (.int .i32 0),.pv (.int .i32 0),Vi 0,Vb false])]⟩) ?_ (fun p σj3 hp hsj3=>?_) (fun p hp=>?_)
 ·refine B1 (fun q σ=>((σ.forget [1,4,7,8,9]).killAll []).tidy [] [(1,false),(4,false),(7,false),(8,false),(9,false)] [(.loc 4 0,false)] [.loc 6 0] []=⟨[(1,Vi id2),(4,.ptr (.loc 4 0) 0),(7,Vl Aa.pv l1),(8,Vi (l1.length:Int)),(9,Vi q)],[(.loc 4 0,.box [Vi 0,Vi 0,Vi 0,Vi 0,Vi 0,.pv (.int .i32 0),.pv (.int .i32 0),Vi 0,Vb false])]⟩) hj3 ?_ ?_
  ·show _=_
   kernel_rfl
  ·intro x4 σj3 oj3 hJj3 h
   refine W.keep hJj3 ?_
   refine Ab Aw ?_
   refine Ar (t:=decide (x4<(l1.length:Int))) (by kernel_rfl) h (fun hc h'=>?_) (fun hc h'=>?_)
   ·replace h:=h'
    refine Ay ?_
    refine Bs ?_
    refine Ae ?_
    obtain⟨x5,hx5,h⟩:=Ag h
    refine Ab (Aj.dyn (Iw Aa.pv l1 x4 x5 hx5) Aw) ?_
    refine Ae ?_
    refine Ab Aw ?_
    refine Ar (t:=(x5.Bc==id2)) (by kernel_rfl) h (fun hc h'=>?_) (fun hc h'=>?_)
    ·replace h:=h'
     refine Ae ?_
     refine Ab Aw ?_
     refine An rfl ?_
     cases h
     exact A8 ((Bh Cd (Ed Cd Dh (fun e=>by subst e;exact Fw))))
    ·replace h:=h'
     refine Ay ?_
     refine W.ops Aw ?_
     cases h
     exact Ow
   ·replace h:=h'
    cases h
    exact Bp ((Bh B6 (Eh (by(show _=_);kernel_rfl))))
 ·subst hp
  obtain⟨⟩:=p
  refine An hsj3 ?_
  refine Ab Aw ?_
  refine W.keep rfl ?_
  cases h
  exact W.ret Fw
 ·subst hp
  exact Option.some.inj h
end Go.Av.G
end
section
set_option linter.unusedVariables false
set_option linter.unusedSimpArgs false
set_option maxRecDepth 100000
set_option maxHeartbeats 8000000
namespace Go.Av.G
open Go Go.Av Go.Proofs
def A5h:List GOp:=[o0 10 (.mov .nils)]
def A5i:List GOp:=[m0 17 4,o0 18 (.mm true (.cst (.int .i64 0)) [(.tmp 17)]),m0 11 18]
def A5j:List GOp:=[o0 12 (.mov .nils)]
def A5k:List GOp:=[k0 13 9]
def A5l:List GOp:=[m0 19 13,q0 20 .geq 19 0]
def A5m:List GOp:=[k0 14 0]
def A5n:List GOp:=[m0 23 14,m0 24 0,e0 25 24,p0 26 .lss 23 25]
def A5o:List GOp:=[m0 29 0,m0 30 14,i0 31 9 29 30,t0 32 9 31,m0 33 3,o0 34 (.call 0 0 (.cst (.fn 59)) [(.tmp 32),(.tmp 33)] [] []),m0 15 34]
def A5p:List GOp:=[m0 35 15,m0 36 35,g0 37 36 true (.mov (.tmp 0)),g0 38 36 true (.mov (.tmp 14)),g0 39 36 true (.idx 9 (.tmp 37) (.tmp 38)),g0 40 36 true (.fld 4 (.tmp 39)),g0 41 36 true (.load false 1 (.tmp 40)),g0 42 36 true (.mov (.tmp 13)),g0 43 36 true (.bin false .eql (.tmp 41) (.tmp 42)),o0 44 (.pick (.tmp 36) (.tmp 43) (.cst (.bool false))),m0 45 44,g0 46 45 true (.mov (.tmp 0)),g0 47 45 true (.mov (.tmp 14)),g0 48 45 true (.idx 9 (.tmp 46) (.tmp 47)),g0 49 45 true (.fld 1 (.tmp 48)),g0 50 45 true (.load false 1 (.tmp 49)),g0 51 45 true (.mov (.tmp 1)),g0 52 45 true (.bin false .eql (.tmp 50) (.tmp 51)),o0 53 (.pick (.tmp 45) (.tmp 52) (.cst (.bool false))),m0 54 53,g0 55 54 true (.mov (.tmp 0)),g0 56 54 true (.mov (.tmp 14)),g0 57 54 true (.idx 9 (.tmp 55) (.tmp 56)),g0 58 54 true (.fld 2 (.tmp 57)),g0 59 54 true (.fld 0 (.tmp 58)),g0 60 54 true (.load false 1 (.tmp 59)),g0 61 54 true (.mov (.tmp 2)),g0 62 54 true (.bin false .eql (.tmp 60) (.tmp 61)),o0 63 (.pick (.tmp 54) (.tmp 62) (.cst (.bool false)))]
def A5q:List GOp:=[m0 64 11,m0 65 0,m0 66 14,i0 67 9 65 66,t0 68 9 67,m0 69 3,o0 70 (.call 0 0 (.cst (.fn 91)) [(.tmp 68),(.tmp 69)] [] []),o0 71 (.mm false (.tmp 64) [(.tmp 70)]),m0 16 71]
def Atn:List GOp:=[m0 72 11,m0 73 16,p0 74 .sub 72 73,m0 11 74]
def Ato:List GOp:=[m0 75 12,m0 76 0,m0 77 14,i0 78 9 76 77,f0 79 0 78,l0 80 1 79,m0 81 16,o0 82 (.build [.pv (.int .i64 0),.pv (.int .i64 0)] [(0,1,(.tmp 80)),(1,1,(.tmp 81))]),o0 83 (.lit false 2 [(.tmp 82)]),o0 84 (.append 12 2 16 (.tmp 75) (.tmp 83)),m0 12 84]
def Atp:List GOp:=[m0 27 14,q0 28 .add 27 1,m0 14 28]
def Atl:AC:=(.keep [] [(0,false),(1,false),(2,false),(3,false),(11,false),(12,false),(13,false),(14,false)] [(.loc 12 0,false)] [] [] (.seq (.seq (.ops A5n) (.cond (.tmp 26) .skip (.exit 2))) (.seq (.pass 3 (.seq (.ops A5o) (.seq (.ops A5p) (.cond (.tmp 63) (.seq (.ops A5q) (.seq (.ops Atn) (.ops Ato))) .skip)))) (.keep [] [(0,false),(1,false),(2,false),(3,false),(11,false),(12,false),(13,false),(14,false)] [(.loc 12 0,false)] [] [] (.ops Atp)))))
def Atq:List GOp:=[m0 21 13,q0 22 .sub 21 1,m0 13 22]
def Atm:AC:=(.keep [] [(0,false),(1,false),(2,false),(3,false),(11,false),(12,false),(13,false)] [(.loc 12 0,false)] [] [.slot 12 (.loc 12 0) 2] (.seq (.seq (.ops A5l) (.cond (.tmp 20) .skip (.exit 0))) (.seq (.pass 1 (.seq (.ops A5m) (.block 2 (.loop [0,1,2,3,11,12,13,14] [] Atl)))) (.keep [] [(0,false),(1,false),(2,false),(3,false),(11,false),(12,false),(13,false)] [(.loc 12 0,false)] [] [] (.ops Atq)))))
def Atr:List GOp:=[m0 85 12,m0 10 85]
def Bgn:AC:=(.seq (.ops A5h) (.seq (.ops A5i) (.seq (.ops A5j) (.seq (.seq (.ops A5k) (.block 0 (.loop [0,1,2,3,11,12,13] [] Atm))) (.seq (.keep [.loc 12 0] [(12,true)] [] [] [] (.ops Atr)) (.keep [] [(10,false)] [] [] [] .ret))))))
def Q45:Fd:=⟨5,[.tmp 10],[],Bgn⟩
theorem Atk:Bl Tryz.prog Tryz.f62 Q45=true:=by kernel_rfl
theorem Oe{l1:List Aa}{acc2:Int}{cur3:Int}{now4:Int}{funds5:Int}{r:List Aq}(h:Ft l1 acc2 cur3 now4 funds5=some r):A3 Tryz.prog 62 [Vl Aa.pv l1,Vi acc2,Vi cur3,.pv (.int .i32 now4),Vi funds5] [] ⟨Vl Aq.pv r,[],[]⟩:=by
 refine Ap hm Tryz.func62 Atk (by kernel_rfl) ?_
 unfold Ft at h
 refine Ab Aw ?_
 refine Ab Aw ?_
 refine Ab Aw ?_
 refine Ae ?_
 refine Ab Aw ?_
 obtain⟨j6,hj6,h⟩:=Ag h
 refine W.join (j:=j6) (fun p σ=>σ.tidy [.loc 12 0] [(12,true)] [] [] []=⟨[(12,Vl Aq.pv p)],[]⟩) ?_ (fun σj6 hsj6=>?_)
 ·refine Ch (fun q σ=>((σ.forget [0,1,2,3,11,12,13]).killAll []).tidy [] [(0,false),(1,false),(2,false),(3,false),(11,false),(12,false),(13,false)] [(.loc 12 0,false)] [] [.slot 12 (.loc 12 0) 2]=⟨[(0,Vl Aa.pv l1),(1,Vi acc2),(2,Vi cur3),(3,.pv (.int .i32 now4)),(11,Vi q.1),(12,.own (.loc 12 0)),(13,Vi q.2.1)],[(.loc 12 0,.row 2 (List.map Aq.pv q.2.2))]⟩) hj6 ?_ ?_
  ·show _=_
   kernel_rfl
  ·intro q σj6 oj6 hJj6 h
   obtain⟨left7,rank8,row9⟩:=q
   refine W.keep hJj6 ?_
   refine Ae ?_
   refine Ab Aw ?_
   refine Ar (t:=decide (rank8≥0)) (by kernel_rfl) h (fun hc h'=>?_) (fun hc h'=>?_)
   ·replace h:=h'
    refine Ay ?_
    refine Bs ?_
    refine Ae ?_
    refine Ab Aw ?_
    obtain⟨j10,hj10,h⟩:=Ag h
    refine W.join (j:=j10) (fun p σ=>σ.tidy [] [(0,false),(1,false),(2,false),(3,false),(11,false),(12,false),(13,false)] [(.loc 12 0,false)] [] []=⟨[(0,Vl Aa.pv l1),(1,Vi acc2),(2,Vi cur3),(3,.pv (.int .i32 now4)),(11,Vi p.1),(12,.own (.loc 12 0)),(13,Vi rank8)],[(.loc 12 0,.row 2 (List.map Aq.pv p.2))]⟩) ?_ (fun σj10 hsj10=>?_)
    ·refine Ch (fun q σ=>((σ.forget [0,1,2,3,11,12,13,14]).killAll []).tidy [] [(0,false),(1,false),(2,false),(3,false),(11,false),(12,false),(13,false),(14,false)] [(.loc 12 0,false)] [] []=⟨[(0,Vl Aa.pv l1),(1,Vi acc2),(2,Vi cur3),(3,.pv (.int .i32 now4)),(11,Vi q.1),(12,.own (.loc 12 0)),(13,Vi rank8),(14,Vi q.2.1)],[(.loc 12 0,.row 2 (List.map Aq.pv q.2.2))]⟩) hj10 ?_ ?_
     ·show _=_
      kernel_rfl
     ·intro q σj10 oj10 hJj10 h
      obtain⟨left11,i12,row13⟩:=q
      refine W.keep hJj10 ?_
      refine Ae ?_
      refine Ab (Bw 2 (Aj.dyn (Lw Aa.pv l1) Aw)) ?_
      refine Ar (t:=decide (i12<(l1.length:Int))) (by kernel_rfl) h (fun hc h'=>?_) (fun hc h'=>?_)
      ·replace h:=h'
       refine Ay ?_
       refine Bs ?_
       refine Ae ?_
       obtain⟨x14,hx14,h⟩:=Ag h
       obtain⟨x15,hx15,h⟩:=Ag h
       refine Ab (Bw 2 (Aj.dyn (Iw Aa.pv l1 i12 x14 hx14) (Bw 2 (Aj.cons (Tw (Hx hx15) Ax) (Kw 59 [] (Vb x15) Hw) Aw)))) ?_
       refine Ae ?_
       obtain⟨x16,hx16,h⟩:=Ag h
       obtain⟨c17,hc17,h⟩:=Ag h
       obtain⟨x18,hx18,h⟩:=Ag h
       obtain⟨c19,hc19,h⟩:=Ag h
       obtain⟨x20,hx20,h⟩:=Ag h
       refine Ab (Bw 2 (Aj.puts 2 [(38,(Bf x15 (Vi i12))),(37,(Bf x15 (Vl Aa.pv l1)))] (by cases x15<;>kernel_rfl) (Aj.dyn (Bn x15 (by kernel_rfl) (by
          cases x15
          ·exact .inl ⟨by kernel_rfl,by kernel_rfl⟩
          ·exact .inr ⟨by kernel_rfl,by kernel_rfl,Iw Aa.pv l1 i12 x16 hx16⟩)) (Aj.puts 5 [(44,Vb (x15&&(x16.A9==rank8))),(43,(Bf x15 (Vb (x16.A9==rank8)))),(42,(Bf x15 (Vi rank8))),(41,(Bf x15 (Vi x16.A9))),(40,(Bf x15 (.ipv (Aa.pv x16) 4)))] (by cases x15<;>kernel_rfl) (Aj.dyn (Nw (x15&&(x16.A9==rank8)) c17 hc17) (Aj.puts 2 [(47,(Bf c17 (Vi i12))),(46,(Bf c17 (Vl Aa.pv l1)))] (by cases c17<;>kernel_rfl) (Aj.dyn (Bn c17 (by kernel_rfl) (by
          cases c17
          ·exact .inl ⟨by kernel_rfl,by kernel_rfl⟩
          ·exact .inr ⟨by kernel_rfl,by kernel_rfl,Iw Aa.pv l1 i12 x18 hx18⟩)) (Aj.puts 5 [(53,Vb (c17&&(x18.Az==acc2))),(52,(Bf c17 (Vb (x18.Az==acc2)))),(51,(Bf c17 (Vi acc2))),(50,(Bf c17 (Vi x18.Az))),(49,(Bf c17 (.ipv (Aa.pv x18) 1)))] (by cases c17<;>kernel_rfl) (Aj.dyn (Nw (c17&&(x18.Az==acc2)) c19 hc19) (Aj.puts 2 [(56,(Bf c19 (Vi i12))),(55,(Bf c19 (Vl Aa.pv l1)))] (by cases c19<;>kernel_rfl) (Aj.dyn (Bn c19 (by kernel_rfl) (by
          cases c19
          ·exact .inl ⟨by kernel_rfl,by kernel_rfl⟩
          ·exact .inr ⟨by kernel_rfl,by kernel_rfl,Iw Aa.pv l1 i12 x20 hx20⟩)) (Aj.puts 6 [(63,Vb (c19&&(x20.Ak.Bb==cur3))),(62,(Bf c19 (Vb (x20.Ak.Bb==cur3)))),(61,(Bf c19 (Vi cur3))),(60,(Bf c19 (Vi x20.Ak.Bb))),(59,(Bf c19 (.ipv (Aa.pv x20) 2))),(58,(Bf c19 (.ipv (Aa.pv x20) 2)))] (by cases c19<;>kernel_rfl) ((.nil _)))))))))))))) ?_
       obtain⟨j21,hj21,h⟩:=Ag h
       refine W.join (j:=j21) (fun p σ=>σ.tidy [] [(0,false),(1,false),(2,false),(3,false),(11,false),(12,false),(13,false),(14,false)] [(.loc 12 0,false)] [] []=⟨[(0,Vl Aa.pv l1),(1,Vi acc2),(2,Vi cur3),(3,.pv (.int .i32 now4)),(11,Vi p.1),(12,.own (.loc 12 0)),(13,Vi rank8),(14,Vi i12)],[(.loc 12 0,.row 2 (List.map Aq.pv p.2))]⟩) ?_ (fun σj21 hsj21=>?_)
       ·replace h:=hj21
        refine De (t:=(c19&&(x20.Ak.Bb==cur3))) (by kernel_rfl) h (fun hc h'=>?_) (fun hc h'=>?_)
        ·replace h:=h'
         obtain⟨x22,hx22,h⟩:=Ag h
         obtain⟨x23,hx23,h⟩:=Ag h
         refine Ab (Bw 3 (Aj.dyn (Iw Aa.pv l1 i12 x22 hx22) (Bw 2 (Aj.cons (Tw (J5 hx23) Ax) (Kw 91 [] (Vi x23) Hw) Aw)))) ?_
         refine Ab Aw ?_
         obtain⟨x24,hx24,h⟩:=Ag h
         obtain⟨x25,hx25,h⟩:=Ag h
         refine W.ops (Bw 3 (Aj.dyn (Iw Aa.pv l1 i12 x24 hx24) (Bw 5 (Aj.dyn (C5 (k:= .loc 12 0) (f:=Aq.pv) (l:=row13) (m:=[(⟨x24.Bc,(if x23<left11 then x23 else left11)⟩:Aq)]) (by kernel_rfl) (by kernel_rfl) (by kernel_rfl) hx25 (fun _=>rfl) (by kernel_rfl)) Aw)))) ?_
         cases h
         exact Jw
        ·replace h:=h'
         cases h
         exact W.skip Jw
       ·obtain⟨left26,row27⟩:=j21
        refine W.keep hsj21 ?_
        refine W.ops Aw ?_
        cases h
        exact Ow
      ·replace h:=h'
       cases h
       exact Bp ((Bh B6 (D3 (by(show _=_);kernel_rfl))))
    ·obtain⟨left28,row29⟩:=j10
     refine W.keep hsj10 ?_
     refine W.ops Aw ?_
     cases h
     exact Ow
   ·replace h:=h'
    cases h
    exact Bp ((Bh B6 (D3 (by(show _=_);kernel_rfl))))
 ·refine An hsj6 ?_
  refine Ab Aw ?_
  refine W.keep rfl ?_
  cases h
  exact W.ret Fw
def A2q:List GOp:=[o0 4 (.box (.tmp 0)),k0 8 0]
def A2r:List GOp:=[f0 11 3 4,l0 12 1 11,m0 13 1,t0 14 5 4,m0 15 1,o0 16 (.call 0 0 (.cst (.fn 17)) [(.tmp 14),(.tmp 15)] [] []),m0 17 2,t0 18 5 4,m0 19 1,m0 20 2,o0 21 (.call 0 0 (.cst (.fn 45)) [(.tmp 18),(.tmp 19),(.tmp 20)] [] []),o0 22 (.call 0 0 (.cst (.fn 62)) [(.tmp 12),(.tmp 13),(.tmp 16),(.tmp 17),(.tmp 21)] [] []),e0 23 22,k0 24 0]
def A2s:List GOp:=[p0 25 .lss 24 23]
def A2t:List GOp:=[i0 26 2 22 24,t0 27 2 26,o0 10 (.alloc [.pv (.int .i64 0),.pv (.int .i64 0)]),s0 2 10 27]
def A2u:List GOp:=[f0 28 0 10,l0 29 1 28,m0 30 3,p0 31 .eql 29 30]
def A2v:List GOp:=[f0 32 1 10,l0 33 1 32,m0 8 33]
def A2w:List GOp:=[q0 34 .add 24 1,m0 24 34]
def A2p:AC:=(.keep [] [(3,false),(22,false),(23,false),(24,false)] [] [.loc 10 0,.loc 4 0] [] (.seq (.ops A2s) (.seq (.cond (.tmp 25) .skip (.exit 0)) (.seq (.pass 1 (.seq (.ops A2t) (.seq (.ops A2u) (.cond (.tmp 31) (.seq (.ops A2v) (.keep [] [(8,false)] [] [.loc 10 0] [] .ret)) .skip)))) (.ops A2w)))))
def A2x:List GOp:=[k0 8 0]
def Bfy:AC:=(.seq (.ops A2q) (.seq (.seq (.draw [] A2r) (.block 0 (.loop [3,22,23,24] [] A2p))) (.seq (.keep [] [] [] [.loc 4 0] [] (.ops A2x)) (.keep [] [(8,false)] [] [.loc 10 0] [] .ret))))
def Q30:Fd:=⟨4,[.tmp 8],[],Bfy⟩
theorem Asj:Bl Tryz.prog Tryz.f26 Q30=true:=by kernel_rfl
theorem Na{t1:Ah}{acc2:Int}{now3:Int}{id4:Int}{r:Int}(h:Eb t1 acc2 now3 id4=some r):A3 Tryz.prog 26 [.pv (Ah.pv t1),Vi acc2,.pv (.int .i32 now3),Vi id4] [] ⟨Vi r,[],[]⟩:=by
 refine Ap hm Tryz.func26 Asj (by kernel_rfl) ?_
 unfold Eb at h
 refine Ab Aw ?_
 refine Ae ?_
 obtain⟨x5,hx5,h⟩:=Ag h
 obtain⟨x6,hx6,h⟩:=Ag h
 obtain⟨x7,hx7,h⟩:=Ag h
 refine Bx (Tw (Fi hx5) (Tw (K6 hx6) (Tw (Oe hx7) Ax))) (Dw 5 (Run.dyn (Kw 17 [] (Vi x5) Hw) (Dw 4 (Run.dyn (Kw 45 [] (Vi x6) (Ek rfl Hw)) (Run.dyn (Kw 62 [] (Vl Aq.pv x7) (Ek rfl (Ek rfl Hw))) (Run.dyn (Lw Aq.pv x7) Cw)))))) ?_
 obtain⟨j8,hj8,h⟩:=Ag h
 refine Ck (j:=j8) (o:=r) (fun p σ=>σ.tidy [] [] [] [.loc 4 0] []=⟨[],[]⟩) ?_ (fun p σj8 hp hsj8=>?_) (fun p hp=>?_)
 ·refine B1 (fun q σ=>((σ.forget [3,22,23,24]).killAll []).tidy [] [(3,false),(22,false),(23,false),(24,false)] [] [.loc 10 0,.loc 4 0] []=⟨[(3,Vi id4),(22,Vl Aq.pv x7),(23,Vi (x7.length:Int)),(24,Vi q)],[]⟩) hj8 ?_ ?_
  ·show _=_
   kernel_rfl
  ·intro x9 σj8 oj8 hJj8 h
   refine W.keep hJj8 ?_
   refine Ab Aw ?_
   refine Ar (t:=decide (x9<(x7.length:Int))) (by kernel_rfl) h (fun hc h'=>?_) (fun hc h'=>?_)
   ·replace h:=h'
    refine Ay ?_
    refine Bs ?_
    refine Ae ?_
    obtain⟨x10,hx10,h⟩:=Ag h
    refine Ab (Aj.dyn (Iw Aq.pv x7 x9 x10 hx10) Aw) ?_
    refine Ae ?_
    refine Ab Aw ?_
    refine Ar (t:=(x10.Bc==id4)) (by kernel_rfl) h (fun hc h'=>?_) (fun hc h'=>?_)
    ·replace h:=h'
     refine Ae ?_
     refine Ab Aw ?_
     refine An rfl ?_
     cases h
     exact A8 ((Bh Cd (Ed Cd Dh (fun e=>by subst e;exact Fw))))
    ·replace h:=h'
     refine Ay ?_
     refine W.ops Aw ?_
     cases h
     exact Ow
   ·replace h:=h'
    cases h
    exact Bp ((Bh B6 (Eh (by(show _=_);kernel_rfl))))
 ·subst hp
  obtain⟨⟩:=p
  refine An hsj8 ?_
  refine Ab Aw ?_
  refine W.keep rfl ?_
  cases h
  exact W.ret Fw
 ·subst hp
  exact Option.some.inj h
def A1d:List GOp:=[o0 6 (.box (.tmp 0)),o0 7 (.box (.tmp 1)),o0 9 (.box (.tmp 3)),b0 12 false]
def A1e:List GOp:=[t0 24 5 6,o0 25 (.call 0 0 (.cst (.fn 7)) [(.tmp 24)] [] []),s0 5 6 25]
def A1f:List GOp:=[t0 27 5 6,t0 28 9 7,o0 29 (.call 0 0 (.cst (.fn 19)) [(.tmp 27),(.tmp 28)] [] []),m0 26 29,o0 30 (.ext 0 (.tmp 26)),o0 31 (.ext 1 (.tmp 26)),o0 32 (.ext 2 (.tmp 26)),o0 13 (.alloc [.nils,.nils,.nils,.nils,.nils]),s0 5 13 30,m0 14 31,m0 15 32]
def A1g:List GOp:=[t0 34 5 6,m0 35 2,t0 36 2 9,m0 37 4,m0 38 5,o0 39 (.call 0 0 (.cst (.fn 20)) [(.tmp 34),(.tmp 35),(.tmp 36),(.tmp 37),(.tmp 38)] [] []),m0 33 39,o0 40 (.ext 0 (.tmp 33)),o0 41 (.ext 1 (.tmp 33)),o0 42 (.ext 2 (.tmp 33)),o0 16 (.alloc [.nils,.nils,.nils,.nils,.nils]),s0 5 16 40,m0 17 41,m0 18 42]
def A1h:List GOp:=[o0 43 (.build [.nils,.nils,.nils,.nils,.nils] []),o0 19 (.alloc [.nils,.nils,.nils,.nils,.nils]),s0 5 19 43]
def A1i:List GOp:=[t0 44 5 6,o0 45 (.call 0 0 (.cst (.fn 12)) [(.tmp 44)] [] []),o0 46 (.un .not (.tmp 45))]
def A1j:List GOp:=[o0 47 (.call 0 0 (.cst (.fn 13)) [] [] []),m0 48 47,g0 49 48 true (.mov (.tmp 15)),g0 50 48 true (.bin false .eql (.tmp 49) (.cst (.int .i64 1))),o0 51 (.pick (.tmp 48) (.tmp 50) (.cst (.bool false))),m0 52 51,g0 53 52 true (.mov (.tmp 18)),g0 54 52 true (.bin false .eql (.tmp 53) (.cst (.int .i64 1))),o0 55 (.pick (.tmp 52) (.tmp 54) (.cst (.bool false))),m0 56 55,g0 57 56 true (.mov (.tmp 14)),g0 58 56 true (.un .not (.tmp 57)),o0 59 (.pick (.tmp 56) (.tmp 58) (.cst (.bool false))),m0 60 59,g0 61 60 true (.mov (.tmp 17)),g0 62 60 true (.un .not (.tmp 61)),o0 63 (.pick (.tmp 60) (.tmp 62) (.cst (.bool false))),m0 64 63,g0 65 64 true (.load true 5 (.tmp 13)),g0 66 64 true (.load true 5 (.tmp 19)),g0 67 64 true (.call 0 0 (.cst (.fn 21)) [(.tmp 65),(.tmp 66)] [] []),o0 68 (.pick (.tmp 64) (.tmp 67) (.cst (.bool false))),m0 69 68,g0 70 69 true (.load true 5 (.tmp 16)),g0 71 69 true (.load true 5 (.tmp 19)),g0 72 69 true (.call 0 0 (.cst (.fn 21)) [(.tmp 70),(.tmp 71)] [] []),o0 73 (.pick (.tmp 69) (.tmp 72) (.cst (.bool false))),m0 12 73]
def A1k:List GOp:=[f0 75 3 6,l0 76 1 75,t0 77 9 7,o0 78 (.call 0 0 (.cst (.fn 22)) [(.tmp 76),(.tmp 77)] [] []),m0 74 78,o0 79 (.ext 0 (.tmp 74)),o0 80 (.ext 1 (.tmp 74)),m0 20 79,m0 21 80]
def A1l:List GOp:=[m0 81 21,q0 82 .eql 81 0]
def A1m:List GOp:=[t0 83 5 6,f0 84 1 7,l0 85 1 84,f0 86 5 7,l0 87 1 86,o0 88 (.call 0 0 (.cst (.fn 14)) [(.tmp 83),(.tmp 85),(.tmp 87)] [] []),m0 21 88]
def Ark:List GOp:=[m0 89 21,q0 90 .eql 89 0,m0 91 90,g0 92 91 true (.fld 2 (.tmp 7)),g0 93 91 true (.fld 0 (.tmp 92)),g0 94 91 true (.load false 1 (.tmp 93)),g0 95 91 true (.load true 5 (.tmp 6)),g0 96 91 true (.fld 1 (.tmp 7)),g0 97 91 true (.load false 1 (.tmp 96)),g0 98 91 true (.call 0 0 (.cst (.fn 17)) [(.tmp 95),(.tmp 97)] [] []),g0 99 91 true (.bin false .neq (.tmp 94) (.tmp 98)),o0 100 (.pick (.tmp 91) (.tmp 99) (.cst (.bool false)))]
def Arl:List GOp:=[k0 21 12]
def Arm:List GOp:=[m0 102 21,q0 103 .neq 102 0,m0 101 103]
def Arn:List GOp:=[m0 104 15,m0 105 21,p0 106 .neq 104 105,m0 107 106,g0 108 107 false (.mov (.tmp 14)),o0 109 (.pick (.tmp 107) (.cst (.bool true)) (.tmp 108)),m0 110 109,g0 111 110 false (.load true 5 (.tmp 13)),g0 112 110 false (.load true 5 (.tmp 19)),g0 113 110 false (.call 0 0 (.cst (.fn 21)) [(.tmp 111),(.tmp 112)] [] []),g0 114 110 false (.un .not (.tmp 113)),o0 115 (.pick (.tmp 110) (.cst (.bool true)) (.tmp 114))]
def Aro:List GOp:=[b0 12 false]
def Arp:List GOp:=[f0 117 2 7,f0 118 1 117,l0 119 1 118,t0 120 5 6,f0 121 1 7,l0 122 1 121,f0 123 5 7,l0 124 1 123,f0 125 4 7,l0 126 1 125,o0 127 (.call 0 0 (.cst (.fn 16)) [(.tmp 120),(.tmp 122),(.tmp 124),(.tmp 126)] [] []),p0 128 .leq 119 127,m0 116 128]
def Arq:List GOp:=[m0 129 15,q0 130 .neq 129 0,m0 131 130,g0 132 131 false (.mov (.tmp 14)),g0 133 131 false (.un .not (.tmp 132)),o0 134 (.pick (.tmp 131) (.cst (.bool true)) (.tmp 133)),m0 135 134,g0 136 135 false (.load true 5 (.tmp 13)),g0 137 135 false (.load true 5 (.tmp 6)),g0 138 135 false (.mov (.tmp 20)),g0 139 135 false (.call 0 0 (.cst (.fn 23)) [(.tmp 137),(.tmp 138)] [] []),g0 140 135 false (.call 0 0 (.cst (.fn 21)) [(.tmp 136),(.tmp 139)] [] []),g0 141 135 false (.un .not (.tmp 140)),o0 142 (.pick (.tmp 135) (.cst (.bool true)) (.tmp 141))]
def Arr:List GOp:=[b0 12 false]
def Ars:List GOp:=[m0 144 15,q0 145 .neq 144 0,m0 146 145,g0 147 146 false (.mov (.tmp 14)),o0 148 (.pick (.tmp 146) (.cst (.bool true)) (.tmp 147)),m0 149 148,g0 150 149 false (.load true 5 (.tmp 13)),g0 151 149 false (.load true 5 (.tmp 6)),g0 152 149 false (.call 0 0 (.cst (.fn 21)) [(.tmp 150),(.tmp 151)] [] []),g0 153 149 false (.un .not (.tmp 152)),o0 154 (.pick (.tmp 149) (.cst (.bool true)) (.tmp 153)),m0 143 154]
def Art:List GOp:=[b0 12 false]
def Aru:List GOp:=[f0 156 3 6,l0 157 1 156,m0 158 2,t0 159 2 9,m0 160 4,m0 161 5,o0 162 (.call 0 0 (.cst (.fn 24)) [(.tmp 157),(.tmp 158),(.tmp 159),(.tmp 160),(.tmp 161)] [] []),m0 155 162,o0 163 (.ext 0 (.tmp 155)),o0 164 (.ext 1 (.tmp 155)),m0 22 163,m0 21 164]
def Arv:List GOp:=[f0 165 3 6,l0 166 1 165,m0 167 2,o0 168 (.call 0 0 (.cst (.fn 25)) [(.tmp 166),(.tmp 167)] [] []),o0 23 (.alloc [.pv (.int .i64 0),.pv (.int .i64 0),.pv (.int .i64 0),.pv (.int .i64 0),.pv (.int .i64 0),.pv (.int .i32 0),.pv (.int .i32 0),.pv (.int .i64 0),.pv (.bool false)]),s0 9 23 168]
def Arw:List GOp:=[m0 169 21,q0 170 .eql 169 0]
def Arx:List GOp:=[t0 171 5 6,f0 172 1 23,l0 173 1 172,m0 174 4,o0 175 (.call 0 0 (.cst (.fn 14)) [(.tmp 171),(.tmp 173),(.tmp 174)] [] []),m0 21 175]
def Ary:List GOp:=[m0 176 21,q0 177 .eql 176 0,m0 178 177,g0 179 178 true (.fld 2 (.tmp 23)),g0 180 178 true (.fld 0 (.tmp 179)),g0 181 178 true (.load false 1 (.tmp 180)),g0 182 178 true (.load true 5 (.tmp 6)),g0 183 178 true (.fld 1 (.tmp 23)),g0 184 178 true (.load false 1 (.tmp 183)),g0 185 178 true (.call 0 0 (.cst (.fn 17)) [(.tmp 182),(.tmp 184)] [] []),g0 186 178 true (.bin false .neq (.tmp 181) (.tmp 185)),o0 187 (.pick (.tmp 178) (.tmp 186) (.cst (.bool false)))]
def Arz:List GOp:=[k0 21 12]
def Ar0:List GOp:=[m0 188 21,q0 189 .neq 188 0]
def Ar1:List GOp:=[o0 190 (.call 0 0 (.cst (.fn 13)) [] [] []),m0 191 190,g0 192 191 true (.mov (.tmp 18)),g0 193 191 true (.mov (.tmp 21)),g0 194 191 true (.bin false .eql (.tmp 192) (.tmp 193)),o0 195 (.pick (.tmp 191) (.tmp 194) (.cst (.bool false))),m0 196 195,g0 197 196 true (.mov (.tmp 17)),g0 198 196 true (.un .not (.tmp 197)),o0 199 (.pick (.tmp 196) (.tmp 198) (.cst (.bool false))),m0 200 199,g0 201 200 true (.load true 5 (.tmp 16)),g0 202 200 true (.load true 5 (.tmp 19)),g0 203 200 true (.call 0 0 (.cst (.fn 21)) [(.tmp 201),(.tmp 202)] [] []),o0 204 (.pick (.tmp 200) (.tmp 203) (.cst (.bool false))),m0 12 204]
def Ar2:List GOp:=[f0 205 1 9,l0 206 1 205,t0 207 5 6,f0 208 1 23,l0 209 1 208,m0 210 4,m0 211 2,o0 212 (.call 0 0 (.cst (.fn 26)) [(.tmp 207),(.tmp 209),(.tmp 210),(.tmp 211)] [] []),p0 213 .leq 206 212]
def Ar3:List GOp:=[o0 214 (.call 0 0 (.cst (.fn 13)) [] [] []),m0 215 214,g0 216 215 true (.mov (.tmp 18)),g0 217 215 true (.bin false .eql (.tmp 216) (.cst (.int .i64 0))),o0 218 (.pick (.tmp 215) (.tmp 217) (.cst (.bool false))),m0 219 218,g0 220 219 true (.mov (.tmp 17)),o0 221 (.pick (.tmp 219) (.tmp 220) (.cst (.bool false))),m0 222 221,g0 223 222 true (.load true 5 (.tmp 16)),g0 224 222 true (.load true 5 (.tmp 6)),g0 225 222 true (.mov (.tmp 22)),g0 226 222 true (.call 0 0 (.cst (.fn 23)) [(.tmp 224),(.tmp 225)] [] []),g0 227 222 true (.call 0 0 (.cst (.fn 21)) [(.tmp 223),(.tmp 226)] [] []),o0 228 (.pick (.tmp 222) (.tmp 227) (.cst (.bool false))),m0 12 228]
def Ar4:List GOp:=[o0 229 (.call 0 0 (.cst (.fn 13)) [] [] []),m0 230 229,g0 231 230 true (.mov (.tmp 18)),g0 232 230 true (.bin false .eql (.tmp 231) (.cst (.int .i64 0))),o0 233 (.pick (.tmp 230) (.tmp 232) (.cst (.bool false))),m0 234 233,g0 235 234 true (.mov (.tmp 17)),g0 236 234 true (.un .not (.tmp 235)),o0 237 (.pick (.tmp 234) (.tmp 236) (.cst (.bool false))),m0 238 237,g0 239 238 true (.load true 5 (.tmp 16)),g0 240 238 true (.load true 5 (.tmp 6)),g0 241 238 true (.call 0 0 (.cst (.fn 21)) [(.tmp 239),(.tmp 240)] [] []),o0 242 (.pick (.tmp 238) (.tmp 241) (.cst (.bool false))),m0 12 242]
def Bfq:AC:=(.seq (.ops A1d) (.seq (.ops A1e) (.seq (.ops A1f) (.seq (.ops A1g) (.seq (.ops A1h) (.seq (.seq (.ops A1i) (.cond (.tmp 46) (.seq (.ops A1j) (.keep [] [(12,false)] [] [.loc 13 0,.loc 16 0,.loc 19 0,.loc 23 0,.loc 6 0,.loc 7 0,.loc 9 0] [] .ret)) .skip)) (.seq (.ops A1k) (.seq (.seq (.ops A1l) (.cond (.tmp 82) (.ops A1m) .skip)) (.seq (.seq (.keep [] [(2,false),(4,false),(5,false),(6,false),(7,false),(9,false),(13,false),(14,false),(15,false),(16,false),(17,false),(18,false),(19,false),(20,false),(21,false)] [(.loc 13 0,false),(.loc 16 0,false),(.loc 19 0,false),(.loc 6 0,false),(.loc 7 0,false),(.loc 9 0,false)] [] [] (.draw [] Ark)) (.cond (.tmp 100) (.ops Arl) .skip)) (.seq (.keep [] [(2,false),(4,false),(5,false),(6,false),(7,false),(9,false),(13,false),(14,false),(15,false),(16,false),(17,false),(18,false),(19,false),(20,false),(21,false)] [(.loc 13 0,false),(.loc 16 0,false),(.loc 19 0,false),(.loc 6 0,false),(.loc 7 0,false),(.loc 9 0,false)] [] [] (.pass 0 (.seq (.ops Arm) (.cond (.tmp 101) (.seq (.ops Arn) (.cond (.tmp 115) (.seq (.ops Aro) (.keep [] [(12,false)] [] [.loc 13 0,.loc 16 0,.loc 19 0,.loc 23 0,.loc 6 0,.loc 7 0,.loc 9 0] [] .ret)) .skip)) (.seq (.draw [] Arp) (.cond (.tmp 116) (.seq (.draw [] Arq) (.cond (.tmp 142) (.seq (.ops Arr) (.keep [] [(12,false)] [] [.loc 13 0,.loc 16 0,.loc 19 0,.loc 23 0,.loc 6 0,.loc 7 0,.loc 9 0] [] .ret)) .skip)) (.seq (.ops Ars) (.cond (.tmp 143) (.seq (.ops Art) (.keep [] [(12,false)] [] [.loc 13 0,.loc 16 0,.loc 19 0,.loc 23 0,.loc 6 0,.loc 7 0,.loc 9 0] [] .ret)) .skip)))))))) (.seq (.keep [] [(2,false),(4,false),(5,false),(6,false),(9,false),(16,false),(17,false),(18,false),(19,false)] [(.loc 16 0,false),(.loc 19 0,false),(.loc 6 0,false),(.loc 9 0,false)] [.loc 13 0,.loc 7 0] [] (.ops Aru)) (.seq (.ops Arv) (.seq (.seq (.ops Arw) (.cond (.tmp 170) (.ops Arx) .skip)) (.seq (.seq (.keep [] [(2,false),(4,false),(6,false),(9,false),(16,false),(17,false),(18,false),(19,false),(21,false),(22,false),(23,false)] [(.loc 16 0,false),(.loc 19 0,false),(.loc 23 0,false),(.loc 6 0,false),(.loc 9 0,false)] [] [] (.draw [] Ary)) (.cond (.tmp 187) (.ops Arz) .skip)) (.seq (.seq (.keep [] [(2,false),(4,false),(6,false),(9,false),(16,false),(17,false),(18,false),(19,false),(21,false),(22,false),(23,false)] [(.loc 16 0,false),(.loc 19 0,false),(.loc 23 0,false),(.loc 6 0,false),(.loc 9 0,false)] [] [] (.ops Ar0)) (.cond (.tmp 189) (.seq (.ops Ar1) (.keep [] [(12,false)] [] [.loc 13 0,.loc 16 0,.loc 19 0,.loc 23 0,.loc 6 0,.loc 7 0,.loc 9 0] [] .ret)) .skip)) (.seq (.seq (.draw [] Ar2) (.cond (.tmp 213) (.seq (.draw [] Ar3) (.keep [] [(12,false)] [] [.loc 13 0,.loc 16 0,.loc 19 0,.loc 23 0,.loc 6 0,.loc 7 0,.loc 9 0] [] .ret)) .skip)) (.seq (.ops Ar4) (.keep [] [(12,false)] [] [.loc 13 0,.loc 16 0,.loc 19 0,.loc 23 0,.loc 6 0,.loc 7 0,.loc 9 0] [] .ret))))))))))))))))))
def Q24:Fd:=⟨6,[.tmp 12],[],Bfq⟩
theorem Arj:Bl Tryz.prog Tryz.f5 Q24=true:=by kernel_rfl
theorem Li{t1:Ah}{h2:Aa}{id3:Int}{amount4:A5}{now5:Int}{last6:Bool}{r:Bool}(h:E9 t1 h2 id3 amount4 now5 last6=some r):A3 Tryz.prog 5 [.pv (Ah.pv t1),.pv (Aa.pv h2),Vi id3,.pv (A5.pv amount4),.pv (.int .i32 now5),Vb last6] [] ⟨Vb r,[],[]⟩:=by
 refine Ap hm Tryz.func5 Arj (by kernel_rfl) ?_
 unfold E9 at h
 refine Ab Aw ?_
 obtain⟨x7,hx7,h⟩:=Ag h
 refine Ab (Bw 1 (Aj.cons (Tw (Pv hx7) Ax) (Kw 7 [] (.pv (Ah.pv x7)) Hw) Aw)) ?_
 obtain⟨x8,hx8,h⟩:=Ag h
 refine Ab (Bw 2 (Aj.cons (Tw (Wl hx8) Ax) (Kw 19 [] (.tup [.pv (Ah.pv x8.1),Vb x8.2.1,Vi x8.2.2]) Hw) Aw)) ?_
 obtain⟨x9,hx9,h⟩:=Ag h
 refine Ab (Bw 5 (Aj.cons (Tw (X8 hx9) Ax) (Kw 20 [] (.tup [.pv (Ah.pv x9.1),Vb x9.2.1,Vi x9.2.2]) Hw) Aw)) ?_
 refine Ab Aw ?_
 refine Ae ?_
 obtain⟨x10,hx10,h⟩:=Ag h
 refine Ab (Bw 1 (Aj.cons (Tw (Oh hx10) Ax) (Kw 12 [] (Vb x10) Hw) Aw)) ?_
 refine Ar (t:= !x10) (by kernel_rfl) h (fun hc h'=>?_) (fun hc h'=>?_)
 ·replace h:=h'
  refine Ae ?_
  obtain⟨x11,hx11,h⟩:=Ag h
  obtain⟨c12,hc12,h⟩:=Ag h
  obtain⟨c13,hc13,h⟩:=Ag h
  obtain⟨c14,hc14,h⟩:=Ag h
  obtain⟨c15,hc15,h⟩:=Ag h
  obtain⟨x16,hx16,h⟩:=Ag h
  obtain⟨c17,hc17,h⟩:=Ag h
  obtain⟨x18,hx18,h⟩:=Ag h
  refine Ab (Aj.cons (Tw (Fx hx11) Ax) (Kw 13 [] (Vb x11) Hw) (Bw 1 (Aj.puts 3 [(51,Vb (x11&&(x8.2.2==1))),(50,(Bf x11 (Vb (x8.2.2==1)))),(49,(Bf x11 (Vi x8.2.2)))] (by cases x11<;>kernel_rfl) (Aj.dyn (Nw (x11&&(x8.2.2==1)) c12 hc12) (Aj.puts 3 [(55,Vb (c12&&(x9.2.2==1))),(54,(Bf c12 (Vb (x9.2.2==1)))),(53,(Bf c12 (Vi x9.2.2)))] (by cases c12<;>kernel_rfl) (Aj.dyn (Nw (c12&&(x9.2.2==1)) c13 hc13) (Aj.puts 3 [(59,Vb (c13&&(!x8.2.1))),(58,(Bf c13 (Vb (!x8.2.1)))),(57,(Bf c13 (Vb x8.2.1)))] (by cases c13<;>kernel_rfl) (Aj.dyn (Nw (c13&&(!x8.2.1)) c14 hc14) (Aj.puts 3 [(63,Vb (c14&&(!x9.2.1))),(62,(Bf c14 (Vb (!x9.2.1)))),(61,(Bf c14 (Vb x9.2.1)))] (by cases c14<;>kernel_rfl) (Aj.dyn (Nw (c14&&(!x9.2.1)) c15 hc15) (Aj.puts 2 [(66,(Bf c15 (.agg [.nils,.nils,.nils,.nils,.nils]))),(65,(Bf c15 (.pv (Ah.pv x8.1))))] (by cases c15<;>kernel_rfl) (Aj.cons (Ci (on:=c15) (fun hg=>Db (Dj hg hx16)) Ax) (Bn c15 (by kernel_rfl) (by
     cases c15
     ·exact .inl ⟨by kernel_rfl,by kernel_rfl⟩
     ·exact .inr ⟨by kernel_rfl,by kernel_rfl,Kw 21 [] (Vb x16) Hw⟩)) (Aj.puts 1 [(68,Vb (c15&&x16))] (by cases c15<;>kernel_rfl) (Aj.dyn (Nw (c15&&x16) c17 hc17) (Aj.puts 2 [(71,(Bf c17 (.agg [.nils,.nils,.nils,.nils,.nils]))),(70,(Bf c17 (.pv (Ah.pv x9.1))))] (by cases c17<;>kernel_rfl) (Aj.cons (Ci (on:=c17) (fun hg=>Db (Dj hg hx18)) Ax) (Bn c17 (by kernel_rfl) (by
     cases c17
     ·exact .inl ⟨by kernel_rfl,by kernel_rfl⟩
     ·exact .inr ⟨by kernel_rfl,by kernel_rfl,Kw 21 [] (Vb x18) Hw⟩)) (Aj.puts 1 [(73,Vb (c17&&x18))] (by cases c17<;>kernel_rfl) Aw))))))))))))))))) ?_
  refine An rfl ?_
  cases h
  exact A8 Fw
 ·replace h:=h'
  refine Ay ?_
  obtain⟨x19,hx19,h⟩:=Ag h
  refine Ab (Bw 3 (Aj.cons (Tw (Px hx19) Ax) (Kw 22 [] (.tup [Vl Aa.pv x19.1,Vi x19.2]) Hw) Aw)) ?_
  refine Ae ?_
  refine Ab Aw ?_
  obtain⟨j20,hj20,h⟩:=Ag h
  refine W.join (j:=j20) (fun p σ=>σ.tidy [] [(2,false),(4,false),(5,false),(6,false),(7,false),(9,false),(13,false),(14,false),(15,false),(16,false),(17,false),(18,false),(19,false),(20,false),(21,false)] [(.loc 13 0,false),(.loc 16 0,false),(.loc 19 0,false),(.loc 6 0,false),(.loc 7 0,false),(.loc 9 0,false)] [] []=⟨[(2,Vi id3),(4,.pv (.int .i32 now5)),(5,Vb last6),(6,.ptr (.loc 6 0) 0),(7,.ptr (.loc 7 0) 0),(9,.ptr (.loc 9 0) 0),(13,.ptr (.loc 13 0) 0),(14,Vb x8.2.1),(15,Vi x8.2.2),(16,.ptr (.loc 16 0) 0),(17,Vb x9.2.1),(18,Vi x9.2.2),(19,.ptr (.loc 19 0) 0),(20,Vl Aa.pv x19.1),(21,Vi p)],[(.loc 13 0,.box [Vl Ac.pv x8.1.Bk.As,Vl Ad.pv x8.1.Bk.Au,Vl Af.pv x8.1.Fl,Vl Aa.pv x8.1.A7,Vl Al.pv x8.1.A6]),(.loc 16 0,.box [Vl Ac.pv x9.1.Bk.As,Vl Ad.pv x9.1.Bk.Au,Vl Af.pv x9.1.Fl,Vl Aa.pv x9.1.A7,Vl Al.pv x9.1.A6]),(.loc 19 0,.box [.nils,.nils,.nils,.nils,.nils]),(.loc 6 0,.box [Vl Ac.pv x7.Bk.As,Vl Ad.pv x7.Bk.Au,Vl Af.pv x7.Fl,Vl Aa.pv x7.A7,Vl Al.pv x7.A6]),(.loc 7 0,.box [Vi h2.Bc,Vi h2.Az,Vi h2.Ak.Bb,Vi h2.Ak.Ao,Vi h2.A9,.pv (.int .i32 h2.B5),.pv (.int .i32 h2.Cb),Vi h2.Bo,Vb h2.C4]),(.loc 9 0,.box [Vi amount4.Bb,Vi amount4.Ao])]⟩) ?_ (fun σj20 hsj20=>?_)
  ·replace h:=hj20
   refine De (t:=(x19.2==0)) (by kernel_rfl) h (fun hc h'=>?_) (fun hc h'=>?_)
   ·replace h:=h'
    obtain⟨x21,hx21,h⟩:=Ag h
    refine W.ops (Bw 5 (Aj.cons (Tw (K7 hx21) Ax) (Kw 14 [] (Vi x21) Hw) Aw)) ?_
    cases h
    exact Jw
   ·replace h:=h'
    cases h
    exact W.skip Jw
  ·refine Ae ?_
   refine An hsj20 ?_
   obtain⟨c23,hc23,h⟩:=Ag h
   obtain⟨x24,hx24,h⟩:=Ag h
   refine Bx (Ci (on:=c23) (fun hg=>Fi (Dj hg hx24)) Ax) (Dw 2 (Run.dyn (Nw (j20==0) c23 hc23) (Run.puts 6 [(97,(Bf c23 (Vi h2.Az))),(96,(Bf c23 (.ptr (.loc 7 0) 1))),(95,(Bf c23 (.pv (Ah.pv x7)))),(94,(Bf c23 (Vi h2.Ak.Bb))),(93,(Bf c23 (.ptr (.loc 7 0) 2))),(92,(Bf c23 (.ptr (.loc 7 0) 2)))] (by cases c23<;>kernel_rfl) (Run.dyn (Bn c23 (by kernel_rfl) (by
      cases c23
      ·exact .inl ⟨by kernel_rfl,by kernel_rfl⟩
      ·exact .inr ⟨by kernel_rfl,by kernel_rfl,Kw 17 [] (Vi x24) Hw⟩)) (Run.puts 2 [(100,Vb (c23&&(h2.Ak.Bb !=x24))),(99,(Bf c23 (Vb (h2.Ak.Bb !=x24))))] (by cases c23<;>kernel_rfl) ((Run.nil))))))) ?_
   obtain⟨j25,hj25,h⟩:=Ag h
   refine W.join (j:=j25) (fun p σ=>σ.tidy [] [(2,false),(4,false),(5,false),(6,false),(7,false),(9,false),(13,false),(14,false),(15,false),(16,false),(17,false),(18,false),(19,false),(20,false),(21,false)] [(.loc 13 0,false),(.loc 16 0,false),(.loc 19 0,false),(.loc 6 0,false),(.loc 7 0,false),(.loc 9 0,false)] [] []=⟨[(2,Vi id3),(4,.pv (.int .i32 now5)),(5,Vb last6),(6,.ptr (.loc 6 0) 0),(7,.ptr (.loc 7 0) 0),(9,.ptr (.loc 9 0) 0),(13,.ptr (.loc 13 0) 0),(14,Vb x8.2.1),(15,Vi x8.2.2),(16,.ptr (.loc 16 0) 0),(17,Vb x9.2.1),(18,Vi x9.2.2),(19,.ptr (.loc 19 0) 0),(20,Vl Aa.pv x19.1),(21,Vi p)],[(.loc 13 0,.box [Vl Ac.pv x8.1.Bk.As,Vl Ad.pv x8.1.Bk.Au,Vl Af.pv x8.1.Fl,Vl Aa.pv x8.1.A7,Vl Al.pv x8.1.A6]),(.loc 16 0,.box [Vl Ac.pv x9.1.Bk.As,Vl Ad.pv x9.1.Bk.Au,Vl Af.pv x9.1.Fl,Vl Aa.pv x9.1.A7,Vl Al.pv x9.1.A6]),(.loc 19 0,.box [.nils,.nils,.nils,.nils,.nils]),(.loc 6 0,.box [Vl Ac.pv x7.Bk.As,Vl Ad.pv x7.Bk.Au,Vl Af.pv x7.Fl,Vl Aa.pv x7.A7,Vl Al.pv x7.A6]),(.loc 7 0,.box [Vi h2.Bc,Vi h2.Az,Vi h2.Ak.Bb,Vi h2.Ak.Ao,Vi h2.A9,.pv (.int .i32 h2.B5),.pv (.int .i32 h2.Cb),Vi h2.Bo,Vb h2.C4]),(.loc 9 0,.box [Vi amount4.Bb,Vi amount4.Ao])]⟩) ?_ (fun σj25 hsj25=>?_)
   ·replace h:=hj25
    refine De (t:=(c23&&(h2.Ak.Bb !=x24))) (by kernel_rfl) h (fun hc h'=>?_) (fun hc h'=>?_)
    ·replace h:=h'
     refine W.ops Aw ?_
     cases h
     exact Jw
    ·replace h:=h'
     cases h
     exact W.skip Jw
   ·refine An hsj25 ?_
    refine Bs ?_
    refine Ae ?_
    refine Ab Aw ?_
    obtain⟨j27,hj27,h⟩:=Ag h
    refine Ck (j:=j27) (o:=r) (fun p σ=>σ.tidy [] [(2,false),(4,false),(5,false),(6,false),(9,false),(16,false),(17,false),(18,false),(19,false)] [(.loc 16 0,false),(.loc 19 0,false),(.loc 6 0,false),(.loc 9 0,false)] [.loc 13 0,.loc 7 0] []=⟨[(2,Vi id3),(4,.pv (.int .i32 now5)),(5,Vb last6),(6,.ptr (.loc 6 0) 0),(9,.ptr (.loc 9 0) 0),(16,.ptr (.loc 16 0) 0),(17,Vb x9.2.1),(18,Vi x9.2.2),(19,.ptr (.loc 19 0) 0)],[(.loc 16 0,.box [Vl Ac.pv x9.1.Bk.As,Vl Ad.pv x9.1.Bk.Au,Vl Af.pv x9.1.Fl,Vl Aa.pv x9.1.A7,Vl Al.pv x9.1.A6]),(.loc 19 0,.box [.nils,.nils,.nils,.nils,.nils]),(.loc 6 0,.box [Vl Ac.pv x7.Bk.As,Vl Ad.pv x7.Bk.Au,Vl Af.pv x7.Fl,Vl Aa.pv x7.A7,Vl Al.pv x7.A6]),(.loc 9 0,.box [Vi amount4.Bb,Vi amount4.Ao])]⟩) ?_ (fun p σj27 hp hsj27=>?_) (fun p hp=>?_)
    ·replace h:=hj27
     refine De (t:=(j25 !=0)) (by kernel_rfl) h (fun hc h'=>?_) (fun hc h'=>?_)
     ·replace h:=h'
      obtain⟨c28,hc28,h⟩:=Ag h
      obtain⟨c29,hc29,h⟩:=Ag h
      obtain⟨x30,hx30,h⟩:=Ag h
      refine Ab (Bw 3 (Aj.dyn (Nw (x8.2.2 !=j25) c28 hc28) (Aj.puts 2 [(109,Vb (c28||x8.2.1)),(108,(Bf (!c28) (Vb x8.2.1)))] (by cases c28<;>kernel_rfl) (Aj.dyn (Nw (c28||x8.2.1) c29 hc29) (Aj.puts 2 [(112,(Bf (!c29) (.agg [.nils,.nils,.nils,.nils,.nils]))),(111,(Bf (!c29) (.pv (Ah.pv x8.1))))] (by cases c29<;>kernel_rfl) (Aj.cons (Ci (on:=(!c29)) (fun hg=>Db (Dj hg hx30)) Ax) (Bn (!c29) (by kernel_rfl) (by
         cases c29
         ·exact .inr ⟨by kernel_rfl,by kernel_rfl,Kw 21 [] (Vb x30) Hw⟩
         ·exact .inl ⟨by kernel_rfl,by kernel_rfl⟩)) (Aj.puts 2 [(115,Vb (c29||(!x30))),(114,(Bf (!c29) (Vb (!x30))))] (by cases c29<;>kernel_rfl) ((.nil _))))))))) ?_
      refine De (t:=(c29||(!x30))) (by kernel_rfl) h (fun hc h'=>?_) (fun hc h'=>?_)
      ·replace h:=h'
       refine Ab Aw ?_
       refine W.keep rfl ?_
       cases h
       exact W.ret ((Bh Cd (fun e=>by subst e;exact Fw)))
      ·replace h:=h'
       cases h
       exact W.skip Ow
     ·replace h:=h'
      obtain⟨x31,hx31,h⟩:=Ag h
      refine Bx (Tw (Pi hx31) Ax) (Dw 10 (Run.dyn (Kw 16 [] (Vi x31) Hw) Cw)) ?_
      refine De (t:=decide (h2.Ak.Ao≤x31)) (by kernel_rfl) h (fun hc h'=>?_) (fun hc h'=>?_)
      ·replace h:=h'
       obtain⟨c32,hc32,h⟩:=Ag h
       obtain⟨c33,hc33,h⟩:=Ag h
       obtain⟨x34,hx34,h⟩:=Ag h
       obtain⟨x35,hx35,h⟩:=Ag h
       refine Bx (Ci (on:=(!c33)) (fun hg=>J7 (Dj hg hx34)) (Ci (on:=(!c33)) (fun hg=>Db (Dj hg hx35)) Ax)) (Dw 2 (Run.dyn (Nw (x8.2.2 !=0) c32 hc32) (Run.puts 3 [(134,Vb (c32||(!x8.2.1))),(133,(Bf (!c32) (Vb (!x8.2.1)))),(132,(Bf (!c32) (Vb x8.2.1)))] (by cases c32<;>kernel_rfl) (Run.dyn (Nw (c32||(!x8.2.1)) c33 hc33) (Run.puts 3 [(138,(Bf (!c33) (Vl Aa.pv x19.1))),(137,(Bf (!c33) (.pv (Ah.pv x7)))),(136,(Bf (!c33) (.pv (Ah.pv x8.1))))] (by cases c33<;>kernel_rfl) (Run.dyn (Bn (!c33) (by kernel_rfl) (by
          cases c33
          ·exact .inr ⟨by kernel_rfl,by kernel_rfl,Kw 23 [] (.pv (Ah.pv x34)) Hw⟩
          ·exact .inl ⟨by kernel_rfl,by kernel_rfl⟩)) (Run.dyn (Bn (!c33) (by kernel_rfl) (by
          cases c33
          ·exact .inr ⟨by kernel_rfl,by kernel_rfl,Kw 21 [] (Vb x35) (Ek rfl Hw)⟩
          ·exact .inl ⟨by kernel_rfl,by kernel_rfl⟩)) (Run.puts 2 [(142,Vb (c33||(!x35))),(141,(Bf (!c33) (Vb (!x35))))] (by cases c33<;>kernel_rfl) ((Run.nil)))))))))) ?_
       refine De (t:=(c33||(!x35))) (by kernel_rfl) h (fun hc h'=>?_) (fun hc h'=>?_)
       ·replace h:=h'
        refine Ab Aw ?_
        refine W.keep rfl ?_
        cases h
        exact W.ret ((Bh Cd (fun e=>by subst e;exact Fw)))
       ·replace h:=h'
        cases h
        exact W.skip Ow
      ·replace h:=h'
       obtain⟨c36,hc36,h⟩:=Ag h
       obtain⟨c37,hc37,h⟩:=Ag h
       obtain⟨x38,hx38,h⟩:=Ag h
       refine Ab (Bw 2 (Aj.dyn (Nw (x8.2.2 !=0) c36 hc36) (Aj.puts 2 [(148,Vb (c36||x8.2.1)),(147,(Bf (!c36) (Vb x8.2.1)))] (by cases c36<;>kernel_rfl) (Aj.dyn (Nw (c36||x8.2.1) c37 hc37) (Aj.puts 2 [(151,(Bf (!c37) (.pv (Ah.pv x7)))),(150,(Bf (!c37) (.pv (Ah.pv x8.1))))] (by cases c37<;>kernel_rfl) (Aj.cons (Ci (on:=(!c37)) (fun hg=>Db (Dj hg hx38)) Ax) (Bn (!c37) (by kernel_rfl) (by
          cases c37
          ·exact .inr ⟨by kernel_rfl,by kernel_rfl,Kw 21 [] (Vb x38) Hw⟩
          ·exact .inl ⟨by kernel_rfl,by kernel_rfl⟩)) (Aj.puts 2 [(154,Vb (c37||(!x38))),(153,(Bf (!c37) (Vb (!x38))))] (by cases c37<;>kernel_rfl) Aw))))))) ?_
       refine De (t:=(c37||(!x38))) (by kernel_rfl) h (fun hc h'=>?_) (fun hc h'=>?_)
       ·replace h:=h'
        refine Ab Aw ?_
        refine W.keep rfl ?_
        cases h
        exact W.ret ((Bh Cd (fun e=>by subst e;exact Fw)))
       ·replace h:=h'
        cases h
        exact W.skip Ow
    ·subst hp
     obtain⟨⟩:=p
     refine An hsj27 ?_
     obtain⟨x39,hx39,h⟩:=Ag h
     refine Ab (Bw 6 (Aj.cons (Tw (M9 hx39) Ax) (Kw 24 [] (.tup [Vl Aa.pv x39.1,Vi x39.2]) Hw) Aw)) ?_
     obtain⟨x40,hx40,h⟩:=Ag h
     refine Ab (Bw 3 (Aj.cons (Tw (Pj hx40) Ax) (Kw 25 [] (.pv (Aa.pv x40)) Hw) Aw)) ?_
     refine Ae ?_
     refine Ab Aw ?_
     obtain⟨j41,hj41,h⟩:=Ag h
     refine W.join (j:=j41) (fun p σ=>σ.tidy [] [(2,false),(4,false),(6,false),(9,false),(16,false),(17,false),(18,false),(19,false),(21,false),(22,false),(23,false)] [(.loc 16 0,false),(.loc 19 0,false),(.loc 23 0,false),(.loc 6 0,false),(.loc 9 0,false)] [] []=⟨[(2,Vi id3),(4,.pv (.int .i32 now5)),(6,.ptr (.loc 6 0) 0),(9,.ptr (.loc 9 0) 0),(16,.ptr (.loc 16 0) 0),(17,Vb x9.2.1),(18,Vi x9.2.2),(19,.ptr (.loc 19 0) 0),(21,Vi p),(22,Vl Aa.pv x39.1),(23,.ptr (.loc 23 0) 0)],[(.loc 16 0,.box [Vl Ac.pv x9.1.Bk.As,Vl Ad.pv x9.1.Bk.Au,Vl Af.pv x9.1.Fl,Vl Aa.pv x9.1.A7,Vl Al.pv x9.1.A6]),(.loc 19 0,.box [.nils,.nils,.nils,.nils,.nils]),(.loc 23 0,.box [Vi x40.Bc,Vi x40.Az,Vi x40.Ak.Bb,Vi x40.Ak.Ao,Vi x40.A9,.pv (.int .i32 x40.B5),.pv (.int .i32 x40.Cb),Vi x40.Bo,Vb x40.C4]),(.loc 6 0,.box [Vl Ac.pv x7.Bk.As,Vl Ad.pv x7.Bk.Au,Vl Af.pv x7.Fl,Vl Aa.pv x7.A7,Vl Al.pv x7.A6]),(.loc 9 0,.box [Vi amount4.Bb,Vi amount4.Ao])]⟩) ?_ (fun σj41 hsj41=>?_)
     ·replace h:=hj41
      refine De (t:=(x39.2==0)) (by kernel_rfl) h (fun hc h'=>?_) (fun hc h'=>?_)
      ·replace h:=h'
       obtain⟨x42,hx42,h⟩:=Ag h
       refine W.ops (Bw 4 (Aj.cons (Tw (K7 hx42) Ax) (Kw 14 [] (Vi x42) Hw) Aw)) ?_
       cases h
       exact Jw
      ·replace h:=h'
       cases h
       exact W.skip Jw
     ·refine Ae ?_
      refine An hsj41 ?_
      obtain⟨c44,hc44,h⟩:=Ag h
      obtain⟨x45,hx45,h⟩:=Ag h
      refine Bx (Ci (on:=c44) (fun hg=>Fi (Dj hg hx45)) Ax) (Dw 2 (Run.dyn (Nw (j41==0) c44 hc44) (Run.puts 6 [(184,(Bf c44 (Vi x40.Az))),(183,(Bf c44 (.ptr (.loc 23 0) 1))),(182,(Bf c44 (.pv (Ah.pv x7)))),(181,(Bf c44 (Vi x40.Ak.Bb))),(180,(Bf c44 (.ptr (.loc 23 0) 2))),(179,(Bf c44 (.ptr (.loc 23 0) 2)))] (by cases c44<;>kernel_rfl) (Run.dyn (Bn c44 (by kernel_rfl) (by
         cases c44
         ·exact .inl ⟨by kernel_rfl,by kernel_rfl⟩
         ·exact .inr ⟨by kernel_rfl,by kernel_rfl,Kw 17 [] (Vi x45) Hw⟩)) (Run.puts 2 [(187,Vb (c44&&(x40.Ak.Bb !=x45))),(186,(Bf c44 (Vb (x40.Ak.Bb !=x45))))] (by cases c44<;>kernel_rfl) ((Run.nil))))))) ?_
      obtain⟨j46,hj46,h⟩:=Ag h
      refine W.join (j:=j46) (fun p σ=>σ.tidy [] [(2,false),(4,false),(6,false),(9,false),(16,false),(17,false),(18,false),(19,false),(21,false),(22,false),(23,false)] [(.loc 16 0,false),(.loc 19 0,false),(.loc 23 0,false),(.loc 6 0,false),(.loc 9 0,false)] [] []=⟨[(2,Vi id3),(4,.pv (.int .i32 now5)),(6,.ptr (.loc 6 0) 0),(9,.ptr (.loc 9 0) 0),(16,.ptr (.loc 16 0) 0),(17,Vb x9.2.1),(18,Vi x9.2.2),(19,.ptr (.loc 19 0) 0),(21,Vi p),(22,Vl Aa.pv x39.1),(23,.ptr (.loc 23 0) 0)],[(.loc 16 0,.box [Vl Ac.pv x9.1.Bk.As,Vl Ad.pv x9.1.Bk.Au,Vl Af.pv x9.1.Fl,Vl Aa.pv x9.1.A7,Vl Al.pv x9.1.A6]),(.loc 19 0,.box [.nils,.nils,.nils,.nils,.nils]),(.loc 23 0,.box [Vi x40.Bc,Vi x40.Az,Vi x40.Ak.Bb,Vi x40.Ak.Ao,Vi x40.A9,.pv (.int .i32 x40.B5),.pv (.int .i32 x40.Cb),Vi x40.Bo,Vb x40.C4]),(.loc 6 0,.box [Vl Ac.pv x7.Bk.As,Vl Ad.pv x7.Bk.Au,Vl Af.pv x7.Fl,Vl Aa.pv x7.A7,Vl Al.pv x7.A6]),(.loc 9 0,.box [Vi amount4.Bb,Vi amount4.Ao])]⟩) ?_ (fun σj46 hsj46=>?_)
      ·replace h:=hj46
       refine De (t:=(c44&&(x40.Ak.Bb !=x45))) (by kernel_rfl) h (fun hc h'=>?_) (fun hc h'=>?_)
       ·replace h:=h'
        refine W.ops Aw ?_
        cases h
        exact Jw
       ·replace h:=h'
        cases h
        exact W.skip Jw
      ·refine Ae ?_
       refine An hsj46 ?_
       refine Ab Aw ?_
       refine Ar (t:=(j46 !=0)) (by kernel_rfl) h (fun hc h'=>?_) (fun hc h'=>?_)
       ·replace h:=h'
        refine Ae ?_
        obtain⟨x48,hx48,h⟩:=Ag h
        obtain⟨c49,hc49,h⟩:=Ag h
        obtain⟨c50,hc50,h⟩:=Ag h
        obtain⟨x51,hx51,h⟩:=Ag h
        refine Ab (Aj.cons (Tw (Fx hx48) Ax) (Kw 13 [] (Vb x48) Hw) (Bw 1 (Aj.puts 4 [(195,Vb (x48&&(x9.2.2==j46))),(194,(Bf x48 (Vb (x9.2.2==j46)))),(193,(Bf x48 (Vi j46))),(192,(Bf x48 (Vi x9.2.2)))] (by cases x48<;>kernel_rfl) (Aj.dyn (Nw (x48&&(x9.2.2==j46)) c49 hc49) (Aj.puts 3 [(199,Vb (c49&&(!x9.2.1))),(198,(Bf c49 (Vb (!x9.2.1)))),(197,(Bf c49 (Vb x9.2.1)))] (by cases c49<;>kernel_rfl) (Aj.dyn (Nw (c49&&(!x9.2.1)) c50 hc50) (Aj.puts 2 [(202,(Bf c50 (.agg [.nils,.nils,.nils,.nils,.nils]))),(201,(Bf c50 (.pv (Ah.pv x9.1))))] (by cases c50<;>kernel_rfl) (Aj.cons (Ci (on:=c50) (fun hg=>Db (Dj hg hx51)) Ax) (Bn c50 (by kernel_rfl) (by
           cases c50
           ·exact .inl ⟨by kernel_rfl,by kernel_rfl⟩
           ·exact .inr ⟨by kernel_rfl,by kernel_rfl,Kw 21 [] (Vb x51) Hw⟩)) (Aj.puts 1 [(204,Vb (c50&&x51))] (by cases c50<;>kernel_rfl) Aw))))))))) ?_
        refine An rfl ?_
        cases h
        exact A8 Fw
       ·replace h:=h'
        refine Ay ?_
        refine Ae ?_
        obtain⟨x52,hx52,h⟩:=Ag h
        refine Bx (Tw (Na hx52) Ax) (Dw 7 (Run.dyn (Kw 26 [] (Vi x52) Hw) Cw)) ?_
        refine Ar (t:=decide (amount4.Ao≤x52)) (by kernel_rfl) h (fun hc h'=>?_) (fun hc h'=>?_)
        ·replace h:=h'
         refine Ae ?_
         obtain⟨x53,hx53,h⟩:=Ag h
         obtain⟨c54,hc54,h⟩:=Ag h
         obtain⟨c55,hc55,h⟩:=Ag h
         obtain⟨x56,hx56,h⟩:=Ag h
         obtain⟨x57,hx57,h⟩:=Ag h
         refine Bx (Tw (Fx hx53) (Ci (on:=c55) (fun hg=>J7 (Dj hg hx56)) (Ci (on:=c55) (fun hg=>Db (Dj hg hx57)) Ax))) (Run.dyn (Kw 13 [] (Vb x53) Hw) (Dw 1 (Run.puts 3 [(218,Vb (x53&&(x9.2.2==0))),(217,(Bf x53 (Vb (x9.2.2==0)))),(216,(Bf x53 (Vi x9.2.2)))] (by cases x53<;>kernel_rfl) (Run.dyn (Nw (x53&&(x9.2.2==0)) c54 hc54) (Run.puts 2 [(221,Vb (c54&&x9.2.1)),(220,(Bf c54 (Vb x9.2.1)))] (by cases c54<;>kernel_rfl) (Run.dyn (Nw (c54&&x9.2.1) c55 hc55) (Run.puts 3 [(225,(Bf c55 (Vl Aa.pv x39.1))),(224,(Bf c55 (.pv (Ah.pv x7)))),(223,(Bf c55 (.pv (Ah.pv x9.1))))] (by cases c55<;>kernel_rfl) (Run.dyn (Bn c55 (by kernel_rfl) (by
            cases c55
            ·exact .inl ⟨by kernel_rfl,by kernel_rfl⟩
            ·exact .inr ⟨by kernel_rfl,by kernel_rfl,Kw 23 [] (.pv (Ah.pv x56)) (Ek rfl Hw)⟩)) (Run.dyn (Bn c55 (by kernel_rfl) (by
            cases c55
            ·exact .inl ⟨by kernel_rfl,by kernel_rfl⟩
            ·exact .inr ⟨by kernel_rfl,by kernel_rfl,Kw 21 [] (Vb x57) (Ek rfl (Ek rfl Hw))⟩)) (Run.puts 1 [(228,Vb (c55&&x57))] (by cases c55<;>kernel_rfl) Cw)))))))))) ?_
         refine An rfl ?_
         cases h
         exact A8 Fw
        ·replace h:=h'
         refine Ay ?_
         obtain⟨x58,hx58,h⟩:=Ag h
         obtain⟨c59,hc59,h⟩:=Ag h
         obtain⟨c60,hc60,h⟩:=Ag h
         obtain⟨x61,hx61,h⟩:=Ag h
         refine Ab (Aj.cons (Tw (Fx hx58) Ax) (Kw 13 [] (Vb x58) Hw) (Bw 1 (Aj.puts 3 [(233,Vb (x58&&(x9.2.2==0))),(232,(Bf x58 (Vb (x9.2.2==0)))),(231,(Bf x58 (Vi x9.2.2)))] (by cases x58<;>kernel_rfl) (Aj.dyn (Nw (x58&&(x9.2.2==0)) c59 hc59) (Aj.puts 3 [(237,Vb (c59&&(!x9.2.1))),(236,(Bf c59 (Vb (!x9.2.1)))),(235,(Bf c59 (Vb x9.2.1)))] (by cases c59<;>kernel_rfl) (Aj.dyn (Nw (c59&&(!x9.2.1)) c60 hc60) (Aj.puts 2 [(240,(Bf c60 (.pv (Ah.pv x7)))),(239,(Bf c60 (.pv (Ah.pv x9.1))))] (by cases c60<;>kernel_rfl) (Aj.cons (Ci (on:=c60) (fun hg=>Db (Dj hg hx61)) Ax) (Bn c60 (by kernel_rfl) (by
            cases c60
            ·exact .inl ⟨by kernel_rfl,by kernel_rfl⟩
            ·exact .inr ⟨by kernel_rfl,by kernel_rfl,Kw 21 [] (Vb x61) Hw⟩)) (Aj.puts 1 [(242,Vb (c60&&x61))] (by cases c60<;>kernel_rfl) Aw))))))))) ?_
         refine W.keep rfl ?_
         cases h
         exact W.ret Fw
    ·subst hp
     exact Option.some.inj h
end Go.Av.G
end
