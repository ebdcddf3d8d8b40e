import Derived.Test.YtkcilagjhieapaaGreatDoorTie
import Derived.Test.YtkcilagjhieapaaGreatDoorCards
import Derived.SevenTiedAt
import Derived.Test.YtkcilagjhieapaaGreatDoorRows
import Derived.Test.YtkcilagjhieapaaGreatDoorC18
section
set_option linter.unusedVariables false
set_option linter.unusedSimpArgs false
set_option maxRecDepth 100000
namespace Go.Proofs.YtkcilagjhieapaaGreatDoor
open Go Go.ChangeShapes Go.WideShapes Go.ChangeAt Go.RowKit Go.Av Go.Av.G
theorem Pt(xs:List PV)(hh:Ae5 [Ah.tt,Aa.tt,(.int .i64),A5.tt,(.int .i32),.bool] xs):A3 Tryz.prog 5 (xs.map .pv) [] ⟨.pv (.bool true),[],[]⟩:=by
 obtain⟨a0,y0,rfl,h0,hh⟩:=hh
 obtain⟨a1,y1,rfl,h1,hh⟩:=hh
 obtain⟨a2,y2,rfl,h2,hh⟩:=hh
 obtain⟨a3,y3,rfl,h3,hh⟩:=hh
 obtain⟨a4,y4,rfl,h4,hh⟩:=hh
 obtain⟨a5,y5,rfl,h5,hh⟩:=hh
 obtain rfl:_=[]:=hh
 obtain⟨n0,w0,e0⟩:=Ah.of h0
 obtain rfl:=PV.agg.inj e0
 obtain⟨n1,w1,e1⟩:=Aa.of h1
 obtain rfl:=PV.agg.inj e1
 obtain⟨n2,rfl,w2⟩:=h2
 obtain⟨n3,w3,e3⟩:=A5.of h3
 obtain rfl:=PV.agg.inj e3
 obtain⟨n4,rfl,w4⟩:=h4
 obtain⟨n5,rfl⟩:=h5
 exact Li (Vh n0 n1 n2 n3 n4 n5 w0 w1 w2 w3 w4 trivial)
theorem Sc(os:Os)(started:os.Started)(H:Type)(enc:TypeId×Value→H):
  ReturnsInHanded {} Tryz.checked os 5 .any (fun w args=>(Rows.availGrantsSpec.pre enc Tryz.prog Tryz.f5 [] false w args∧laidMetH Tryz.prog O3 w)∧sizedMet enc Tryz.prog Tryz.f5 (OpenSpec.ofChange Rows.availGrantsSpec) false w args)
   (Rows.availGrantsSpec.post enc Tryz.prog Tryz.f5 false true false false):=by
 refine returnsInHanded_of_change_and (C:=Tryz.checked) (X:=fun w _=>laidMetH Tryz.prog O3 w) (fun _ _ _ hh h=>h.of_heap hh) own started (by kernel_rfl) Tryz.func5
  (ChangeSpec.witness_at (enc:=enc) (C:=Tryz.checked) (os:=os) (X:=fun w _=>laidMetH Tryz.prog O3 w) false (Y9 os) #[.agg #[.slice none 0 0,.slice none 0 0,.slice none 0 0,.slice none 0 0,.slice none 0 0],.agg #[.int .i64 0,.int .i64 0,.int .i64 0,.int .i64 0,.int .i64 0,.int .i32 0,.int .i32 0,.int .i64 0,.bool false],.int .i64 0,.agg #[.int .i64 0,.int .i64 0],.int .i32 0,.bool false] 8 rfl (by kernel_rfl) (by kernel_rfl) (by kernel_rfl) (by kernel_rfl) (by kernel_rfl) (Yh os _)) ?_
 intro W base args ds gs before hok hW _ _ hL _
 exact Axq (P:=Tryz.prog) (fn:=Tryz.f5) (n:=8) (tb:=4) [Ah.tt,Aa.tt,(.int .i64),A5.tt,(.int .i32),.bool] (by kernel_rfl) (by kernel_rfl) (by kernel_rfl) (by kernel_rfl) (by kernel_rfl) (by kernel_rfl) (by kernel_rfl)
  (fun ds hd=>by
   have hd':ds.length=6:=hd
   match ds,hd' with
   |[_,_,_,_,_,_],_=>rfl) Pt W base args ds gs before hok hW (Abs hL)
theorem Sy:Rows.AvailGrantsSaid:=
 OpenClaim.holds_of_wide 5 Tryz.f5 rfl rfl rfl rfl rfl rfl rfl ⟨rfl,rfl,rfl,rfl,rfl⟩ rfl rfl rfl rfl rfl (by kernel_rfl) Tryz.func5 (by kernel_rfl)
  (of_decide_eq_true (by kernel_rfl)) (by unfold Func.isWrapper;first|(rw[if_pos (by decide +kernel)];kernel_rfl)|(rw[if_neg (by decide +kernel)];exact⟨rfl,rfl⟩))
  (fun os started H enc _=>Sc os started H enc)
theorem availGrants_card:Rows.AvailGrantsCardSaid:=
 Claim7.holds_tied_plain_at .later [] [.handle] true (true,"b333b9a7da48aa090b8fb4c184cc8a1432ea4e46acd0569b70c4ad1dba03ef6d") true
  Sy (fun _ h=>by cases h) (by kernel_rfl) (fun _ h=>by cases h) availGrants_row_tie rfl ⟨rfl,rfl⟩ (by kernel_rfl) rfl
  (fun f fn hf hfn=>by
   obtain rfl:f=5:=Option.some.inj ((show Tryz.prog.funcNamed "cashbook/cashbooklaw26.AvailGrants"=some 5 by kernel_rfl).symm.trans hf) |>.symm
   obtain rfl:fn=Tryz.f5:=(Option.some.inj (Tryz.func5.symm.trans hfn)).symm
   exact⟨by kernel_rfl,fun j t ht=>by
    have h1:Tryz.f5.params.toList.all (fun t=> !Tryz.prog.wantsStandIn t)=true:=by kernel_rfl
    have h2:=List.all_eq_true.1 h1 t (by have:=Array.mem_of_getElem? ht;simpa using this)
    have h3:Tryz.prog.wantsStandIn t=false:=by simpa using h2
    exact h3⟩)
  (by kernel_rfl)
end Go.Proofs.YtkcilagjhieapaaGreatDoor
end
