import Derived.Test.YtgmiodjnojkdkaaGreatDoorTie
import Derived.Test.YtgmiodjnojkdkaaGreatDoorCards
import Derived.SevenTiedAt
import Derived.Test.YtgmiodjnojkdkaaGreatDoorRows
import Derived.Test.YtgmiodjnojkdkaaGreatDoorC18
set_option linter.all false
section
set_option maxRecDepth 100000
namespace Go.Proofs.YtgmiodjnojkdkaaGreatDoor
open Go Go.ChangeShapes Go.WideShapes Go.ChangeAt Go.RowKit Go.Av Go.Av.G
theorem Aeh(xs:List PV)(hh:AllOf [.str] xs):Bp Tryz.prog 4 (xs.map .pv) [] ⟨.pv (.bool true),[],[]⟩:=by
 obtain⟨a0,y0,rfl,h0,hh⟩:=hh
 obtain rfl:_=[]:=hh
 obtain⟨n0,rfl,w0⟩:=h0
 exact L4 (n0) true (Av2 n0 w0)
theorem Anl(os:Os)(started:os.Started)(H:Type)(enc:TypeId×Value→H):
  ReturnsInHanded {} Tryz.checked os 4 .any (fun w args=>(Rows.parseProductsSpec.pre enc Tryz.prog Tryz.f4 [] false w args∧laidMetH Tryz.prog Aqw w)∧sizedMet enc Tryz.prog Tryz.f4 (OpenSpec.ofChange Rows.parseProductsSpec) false w args)
   (Rows.parseProductsSpec.post enc Tryz.prog Tryz.f4 false true false false):=by
 refine Ij (C:=Tryz.checked) (X:=fun w _=>laidMetH Tryz.prog Aqw w) own started (by kernel_rfl) Tryz.func4
  (ChangeSpec.witness_shaped (enc:=enc) (C:=Tryz.checked) (os:=os) (X:=fun w _=>laidMetH Tryz.prog Aqw w) false (World.laidAll Tryz.prog os Aqw) #[.string ⟨#[]⟩] 8 (World.laidAll_os _ _ _) (World.shaped_of_ZipB (by kernel_rfl) (by kernel_rfl)) (by kernel_rfl) (by kernel_rfl) (by kernel_rfl) (Bs6 os _)) ?_
 intro W base args ds gs before hok hW hw hsh
 exact Bxu (P:=Tryz.prog) (fn:=Tryz.f4) (n:=8) (tb:=4) [.str] (by kernel_rfl) (by kernel_rfl) (by kernel_rfl) (by kernel_rfl) (by kernel_rfl) (by kernel_rfl) (by kernel_rfl)
  (fun ds hd=>by
   have hd':ds.length=1:=hd
   match ds,hd' with
   |[_],_=>rfl) Aeh W base args ds gs before hok hW hw (A6d hsh)
theorem Aq1:Rows.ParseProductsSaid:=
 OpenClaim.holds_of_wide 4 Tryz.f4 rfl rfl rfl rfl rfl rfl rfl ⟨rfl,rfl,rfl,rfl,rfl⟩ rfl rfl rfl rfl rfl (by kernel_rfl) Tryz.func4 (by kernel_rfl)
  (of_decide_eq_true (by kernel_rfl)) (by unfold Func.isWrapper;first|(rw[if_pos (by decide +kernel)];kernel_rfl)|(rw[if_neg (by decide +kernel)];exact⟨rfl,rfl⟩))
  (fun os started H enc _=>Anl os started H enc)
theorem parseProducts_card:Rows.ParseProductsCardSaid:=
 Claim7.holds_tied_plain_at .later [] [.data,.pinned] true (true,"285f34a232541c18f21b5a0841e756d2493ff531e9e6e45928d161cde51535fa") false
  Aq1 (fun _ h=>by cases h) (by kernel_rfl) (fun _ h=>by cases h) parseProducts_row_tie rfl ⟨rfl,rfl⟩ (by kernel_rfl) rfl
  (fun f fn hf hfn=>by
   obtain rfl:f=4:=Option.some.inj ((show Tryz.prog.funcNamed "cashbook/cashbooklaw15.ParseProducts"=some 4 by kernel_rfl).symm.trans hf) |>.symm
   obtain rfl:fn=Tryz.f4:=(Option.some.inj (Tryz.func4.symm.trans hfn)).symm
   exact⟨by kernel_rfl,fun j t ht=>by
    have h1:Tryz.f4.params.toList.all (fun t=> !Tryz.prog.wantsStandIn t)=true:=by kernel_rfl
    have h2:=List.all_eq_true.1 h1 t (by have:=Array.mem_of_getElem? ht;simpa using this)
    have h3:Tryz.prog.wantsStandIn t=false:=by simpa using h2
    exact h3⟩)
  (by kernel_rfl)
end Go.Proofs.YtgmiodjnojkdkaaGreatDoor
end
