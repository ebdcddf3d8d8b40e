import Derived.Test.YtgmiodjnojkdkaaGreatDoorTie
import Derived.Test.YtgmiodjnojkdkaaGreatDoorCards
import Derived.SevenTiedAt
import Derived.Test.YtgmiodjnojkdkaaGreatDoorRows
import Derived.Test.YtgmiodjnojkdkaaGreatDoorC18
set_option linter.all false
section
set_option maxRecDepth 100000
namespace Go.Proofs.YtgmiodjnojkdkaaGreatDoor
open Go Go.ChangeShapes Go.WideShapes Go.ChangeAt Go.RowKit Go.Av Go.Av.G
theorem Aj4(xs:List PV)(hh:AllOf [(.slice Aa.tt),(.slice Af.tt)] xs):Bp Tryz.prog 5 (xs.map .pv) [] ⟨.pv (.bool true),[],[]⟩:=by
 obtain⟨a0,y0,rfl,h0,hh⟩:=hh
 obtain⟨a1,y1,rfl,h1,hh⟩:=hh
 obtain rfl:_=[]:=hh
 obtain⟨n0,w0,rfl⟩:=of_slice (f:=Aa.pv) (wf:=Aa.wf) (fun xs h=>Aa.of h) h0
 obtain⟨n1,w1,rfl⟩:=of_slice (f:=Af.pv) (wf:=Af.wf) (fun xs h=>Af.of h) h1
 exact Ot (n0,n1) true (Avo n0 n1 w0 w1)
theorem Apz(os:Os)(started:os.Started)(H:Type)(enc:TypeId×Value→H):
  ReturnsInHanded {} Tryz.checked os 5 .any (fun w args=>(Rows.parsePrintsSpec.pre enc Tryz.prog Tryz.f5 [] false w args∧laidMetH Tryz.prog Amz w)∧sizedMet enc Tryz.prog Tryz.f5 (OpenSpec.ofChange Rows.parsePrintsSpec) false w args)
   (Rows.parsePrintsSpec.post enc Tryz.prog Tryz.f5 false true false false):=by
 refine H5 (C:=Tryz.checked) (X:=fun w _=>laidMetH Tryz.prog Amz w) own started (by kernel_rfl) Tryz.func5
  (ChangeSpec.witness_shaped (enc:=enc) (C:=Tryz.checked) (os:=os) (X:=fun w _=>laidMetH Tryz.prog Amz w) false (World.laidAll Tryz.prog os Amz) #[.slice none 0 0,.slice none 0 0] 8 (World.laidAll_os _ _ _) (World.shaped_of_ZipB (by kernel_rfl) (by kernel_rfl)) (by kernel_rfl) (by kernel_rfl) (by kernel_rfl) (Bo4 os _)) ?_
 intro W base args ds gs before hok hW hw hsh
 exact Btq (P:=Tryz.prog) (fn:=Tryz.f5) (n:=8) (tb:=4) [(.slice Aa.tt),(.slice Af.tt)] (by kernel_rfl) (by kernel_rfl) (by kernel_rfl) (by kernel_rfl) (by kernel_rfl) (by kernel_rfl) (by kernel_rfl)
  (fun ds hd=>by
   have hd':ds.length=2:=hd
   match ds,hd' with
   |[_,_],_=>rfl) Aj4 W base args ds gs before hok hW hw (A2h hsh)
theorem Ar1:Rows.ParsePrintsSaid:=
 OpenClaim.holds_of_wide 5 Tryz.f5 rfl rfl rfl rfl rfl rfl rfl ⟨rfl,rfl,rfl,rfl,rfl⟩ rfl rfl rfl rfl rfl (by kernel_rfl) Tryz.func5 (by kernel_rfl)
  (of_decide_eq_true (by kernel_rfl)) (by unfold Func.isWrapper;first|(rw[if_pos (by decide +kernel)];kernel_rfl)|(rw[if_neg (by decide +kernel)];exact⟨rfl,rfl⟩))
  (fun os started H enc _=>Apz os started H enc)
theorem parsePrints_card:Rows.ParsePrintsCardSaid:=
 Claim7.holds_tied_plain_at .later [] [.data,.pinned] true (true,"285f34a232541c18f21b5a0841e756d2493ff531e9e6e45928d161cde51535fa") false
  Ar1 (fun _ h=>by cases h) (by kernel_rfl) (fun _ h=>by cases h) parsePrints_row_tie rfl ⟨rfl,rfl⟩ (by kernel_rfl) rfl
  (fun f fn hf hfn=>by
   obtain rfl:f=5:=Option.some.inj ((show Tryz.prog.funcNamed "cashbook/cashbooklaw15.ParsePrints"=some 5 by kernel_rfl).symm.trans hf) |>.symm
   obtain rfl:fn=Tryz.f5:=(Option.some.inj (Tryz.func5.symm.trans hfn)).symm
   exact⟨by kernel_rfl,fun j t ht=>by
    have h1:Tryz.f5.params.toList.all (fun t=> !Tryz.prog.wantsStandIn t)=true:=by kernel_rfl
    have h2:=List.all_eq_true.1 h1 t (by have:=Array.mem_of_getElem? ht;simpa using this)
    have h3:Tryz.prog.wantsStandIn t=false:=by simpa using h2
    exact h3⟩)
  (by kernel_rfl)
end Go.Proofs.YtgmiodjnojkdkaaGreatDoor
end
