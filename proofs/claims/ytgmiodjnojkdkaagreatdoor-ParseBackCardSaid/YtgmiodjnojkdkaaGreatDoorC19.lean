import Derived.Test.YtgmiodjnojkdkaaGreatDoorTie
import Derived.Test.YtgmiodjnojkdkaaGreatDoorCards
import Derived.SevenTiedAt
import Derived.Test.YtgmiodjnojkdkaaGreatDoorRows
import Derived.Test.YtgmiodjnojkdkaaGreatDoorC18
set_option linter.all false
section
set_option maxRecDepth 100000
namespace Go.Proofs.YtgmiodjnojkdkaaGreatDoor
open Go Go.ChangeShapes Go.WideShapes Go.ChangeAt Go.RowKit Go.Av Go.Av.G
theorem Amm(xs:List PV)(hh:AllOf [(.slice Aa.tt),(.slice Ae.tt),.str] xs):Bo Tryz.prog 6 (xs.map .pv) [] ⟨.pv (.bool true),[],[]⟩:=by
 obtain⟨a0,y0,rfl,h0,hh⟩:=hh
 obtain⟨a1,y1,rfl,h1,hh⟩:=hh
 obtain⟨a2,y2,rfl,h2,hh⟩:=hh
 obtain rfl:_=[]:=hh
 obtain⟨n0,w0,rfl⟩:=of_slice (f:=Aa.pv) (wf:=Aa.wf) (fun xs h=>Aa.of h) h0
 obtain⟨n1,w1,rfl⟩:=of_slice (f:=Ae.pv) (wf:=Ae.wf) (fun xs h=>Ae.of h) h1
 obtain⟨n2,rfl,w2⟩:=h2
 exact Q6 (n0,n1,n2) true (Azj n0 n1 n2 w0 w1 w2)
theorem Aqt(os:Os)(started:os.Started)(H:Type)(enc:TypeId×Value→H):
  ReturnsInHanded {} Tryz.checked os 6 .any (fun w args=>(Rows.parseBackSpec.pre enc Tryz.prog Tryz.f6 [] false w args∧laidMetH Tryz.prog Ajy w)∧sizedMet enc Tryz.prog Tryz.f6 (OpenSpec.ofChange Rows.parseBackSpec) false w args)
   (Rows.parseBackSpec.post enc Tryz.prog Tryz.f6 false true false false):=by
 refine H0 (C:=Tryz.checked) (X:=fun w _=>laidMetH Tryz.prog Ajy w) own started (by kernel_rfl) Tryz.func6
  (ChangeSpec.witness_shaped (enc:=enc) (C:=Tryz.checked) (os:=os) (X:=fun w _=>laidMetH Tryz.prog Ajy w) false (World.laidAll Tryz.prog os Ajy) #[.slice none 0 0,.slice none 0 0,.string ⟨#[]⟩] 8 (World.laidAll_os _ _ _) (World.shaped_of_ZipB (by kernel_rfl) (by kernel_rfl)) (by kernel_rfl) (by kernel_rfl) (by kernel_rfl) (Bmm os _)) ?_
 intro W base args ds gs before hok hW hw hsh
 exact Brx (P:=Tryz.prog) (fn:=Tryz.f6) (n:=8) (tb:=4) [(.slice Aa.tt),(.slice Ae.tt),.str] (by kernel_rfl) (by kernel_rfl) (by kernel_rfl) (by kernel_rfl) (by kernel_rfl) (by kernel_rfl) (by kernel_rfl)
  (fun ds hd=>by
   have hd':ds.length=3:=hd
   match ds,hd' with
   |[_,_,_],_=>rfl) Amm W base args ds gs before hok hW hw (Ay8 hsh)
theorem Asd:Rows.ParseBackSaid:=
 OpenClaim.holds_of_wide 6 Tryz.f6 rfl rfl rfl rfl rfl rfl rfl ⟨rfl,rfl,rfl,rfl,rfl⟩ rfl rfl rfl rfl rfl (by kernel_rfl) Tryz.func6 (by kernel_rfl)
  (of_decide_eq_true (by kernel_rfl)) (by unfold Func.isWrapper;first|(rw[if_pos (by decide +kernel)];kernel_rfl)|(rw[if_neg (by decide +kernel)];exact⟨rfl,rfl⟩))
  (fun os started H enc _=>Aqt os started H enc)
theorem parseBack_card:Rows.ParseBackCardSaid:=
 Claim7.holds_tied_plain_at .later [] [.data,.pinned] true (true,"285f34a232541c18f21b5a0841e756d2493ff531e9e6e45928d161cde51535fa") false
  Asd (fun _ h=>by cases h) (by kernel_rfl) (fun _ h=>by cases h) parseBack_row_tie rfl ⟨rfl,rfl⟩ (by kernel_rfl) rfl
  (fun f fn hf hfn=>by
   obtain rfl:f=6:=Option.some.inj ((show Tryz.prog.funcNamed "cashbook/cashbooklaw15.ParseBack"=some 6 by kernel_rfl).symm.trans hf) |>.symm
   obtain rfl:fn=Tryz.f6:=(Option.some.inj (Tryz.func6.symm.trans hfn)).symm
   exact⟨by kernel_rfl,fun j t ht=>by
    have h1:Tryz.f6.params.toList.all (fun t=> !Tryz.prog.wantsStandIn t)=true:=by kernel_rfl
    have h2:=List.all_eq_true.1 h1 t (by have:=Array.mem_of_getElem? ht;simpa using this)
    have h3:Tryz.prog.wantsStandIn t=false:=by simpa using h2
    exact h3⟩)
  (by kernel_rfl)
end Go.Proofs.YtgmiodjnojkdkaaGreatDoor
end
