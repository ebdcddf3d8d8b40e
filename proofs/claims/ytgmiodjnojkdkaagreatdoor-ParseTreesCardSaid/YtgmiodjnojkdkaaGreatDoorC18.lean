import Derived.Test.YtgmiodjnojkdkaaGreatDoorTie
import Derived.Test.YtgmiodjnojkdkaaGreatDoorCards
import Derived.SevenTiedAt
import Derived.Test.YtgmiodjnojkdkaaGreatDoorRows
import Derived.Test.YtgmiodjnojkdkaaGreatDoorC17
set_option linter.all false
section
set_option linter.unusedVariables false
set_option linter.unusedSimpArgs false
set_option maxRecDepth 100000
namespace Go.Proofs.YtgmiodjnojkdkaaGreatDoor
open Go Go.ChangeShapes Go.WideShapes Go.ChangeAt Go.RowKit Go.Av Go.Av.G
theorem Amn(xs:List PV)(hh:AllOf [.str] xs):Bm Tryz.prog 3 (xs.map .pv) [] ⟨.pv (.bool true),[],[]⟩:=by
 obtain⟨a0,y0,rfl,h0,hh⟩:=hh
 obtain rfl:_=[]:=hh
 obtain⟨n0,rfl,w0⟩:=h0
 exact On (n0) true (Ayj n0 w0)
theorem Arl(os:Os)(started:os.Started)(H:Type)(enc:TypeId×Value→H):
  ReturnsInHanded {} Tryz.checked os 3 .any (fun w args=>(Rows.parseTreesSpec.pre enc Tryz.prog Tryz.f3 [] false w args∧laidMetH Tryz.prog Ami w)∧sizedMet enc Tryz.prog Tryz.f3 (OpenSpec.ofChange Rows.parseTreesSpec) false w args)
   (Rows.parseTreesSpec.post enc Tryz.prog Tryz.f3 false true false false):=by
 refine Hv (C:=Tryz.checked) (X:=fun w _=>laidMetH Tryz.prog Ami w) own started (by kernel_rfl) Tryz.func3
  (ChangeSpec.witness_shaped (enc:=enc) (C:=Tryz.checked) (os:=os) (X:=fun w _=>laidMetH Tryz.prog Ami w) false (World.laidAll Tryz.prog os Ami) #[.string ⟨#[]⟩] 8 (World.laidAll_os _ _ _) (World.shaped_of_ZipB (by kernel_rfl) (by kernel_rfl)) (by kernel_rfl) (by kernel_rfl) (by kernel_rfl) (Bos os _)) ?_
 intro W base args ds gs before hok hW _ hsh
 exact Btl (P:=Tryz.prog) (fn:=Tryz.f3) (n:=8) (tb:=4) [.str] (by kernel_rfl) (by kernel_rfl) (by kernel_rfl) (by kernel_rfl) (by kernel_rfl) (by kernel_rfl) (by kernel_rfl)
  (fun ds hd=>by
   have hd':ds.length=1:=hd
   match ds,hd' with
   |[_],_=>rfl) Amn W base args ds gs before hok hW (A1u hsh)
theorem Atm:Rows.ParseTreesSaid:=
 OpenClaim.holds_of_wide 3 Tryz.f3 rfl rfl rfl rfl rfl rfl rfl ⟨rfl,rfl,rfl,rfl,rfl⟩ rfl rfl rfl rfl rfl (by kernel_rfl) Tryz.func3 (by kernel_rfl)
  (of_decide_eq_true (by kernel_rfl)) (by unfold Func.isWrapper;first|(rw[if_pos (by decide +kernel)];kernel_rfl)|(rw[if_neg (by decide +kernel)];exact⟨rfl,rfl⟩))
  (fun os started H enc _=>Arl os started H enc)
theorem parseTrees_card:Rows.ParseTreesCardSaid:=
 Claim7.holds_tied_plain_at .later [] [.data,.pinned] true (true,"285f34a232541c18f21b5a0841e756d2493ff531e9e6e45928d161cde51535fa") false
  Atm (fun _ h=>by cases h) (by kernel_rfl) (fun _ h=>by cases h) parseTrees_row_tie rfl ⟨rfl,rfl⟩ (by kernel_rfl) rfl
  (fun f fn hf hfn=>by
   obtain rfl:f=3:=Option.some.inj ((show Tryz.prog.funcNamed "cashbook/cashbooklaw15.ParseTrees"=some 3 by kernel_rfl).symm.trans hf) |>.symm
   obtain rfl:fn=Tryz.f3:=(Option.some.inj (Tryz.func3.symm.trans hfn)).symm
   exact⟨by kernel_rfl,fun j t ht=>by
    have h1:Tryz.f3.params.toList.all (fun t=> !Tryz.prog.wantsStandIn t)=true:=by kernel_rfl
    have h2:=List.all_eq_true.1 h1 t (by have:=Array.mem_of_getElem? ht;simpa using this)
    have h3:Tryz.prog.wantsStandIn t=false:=by simpa using h2
    exact h3⟩)
  (by kernel_rfl)
end Go.Proofs.YtgmiodjnojkdkaaGreatDoor
end
