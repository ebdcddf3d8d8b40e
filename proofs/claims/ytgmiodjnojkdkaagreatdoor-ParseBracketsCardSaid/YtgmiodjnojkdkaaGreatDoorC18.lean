import Derived.Test.YtgmiodjnojkdkaaGreatDoorTie
import Derived.Test.YtgmiodjnojkdkaaGreatDoorCards
import Derived.SevenTiedAt
import Derived.Test.YtgmiodjnojkdkaaGreatDoorRows
import Derived.Test.YtgmiodjnojkdkaaGreatDoorC17
set_option linter.all false
section
set_option maxRecDepth 100000
namespace Go.Proofs.YtgmiodjnojkdkaaGreatDoor
open Go Go.ChangeShapes Go.WideShapes Go.ChangeAt Go.RowKit Go.Av Go.Av.G
theorem Vz(xs:List PV)(hh:AllOf [.str,.str,(.int .u8)] xs):Bg Tryz.prog 7 (xs.map .pv) [] ⟨.pv (.bool true),[],[]⟩:=by
 obtain⟨a0,y0,rfl,h0,hh⟩:=hh
 obtain⟨a1,y1,rfl,h1,hh⟩:=hh
 obtain⟨a2,y2,rfl,h2,hh⟩:=hh
 obtain rfl:_=[]:=hh
 obtain⟨n0,rfl,w0⟩:=h0
 obtain⟨n1,rfl,w1⟩:=h1
 obtain⟨n2,rfl,w2⟩:=h2
 exact Jw (n0,n1,n2) true (Afw n0 n1 n2 w0 w1 w2)
theorem Zk(os:Os)(started:os.Started)(H:Type)(enc:TypeId×Value→H):
  ReturnsInHanded {} Tryz.checked os 7 .any (fun w args=>(Rows.parseBracketsSpec.pre enc Tryz.prog Tryz.f7 [] false w args∧laidMetH Tryz.prog Abg w)∧sizedMet enc Tryz.prog Tryz.f7 (OpenSpec.ofChange Rows.parseBracketsSpec) false w args)
   (Rows.parseBracketsSpec.post enc Tryz.prog Tryz.f7 false true false false):=by
 refine Gp (C:=Tryz.checked) (X:=fun w _=>laidMetH Tryz.prog Abg w) own started (by kernel_rfl) Tryz.func7
  (ChangeSpec.witness_shaped (enc:=enc) (C:=Tryz.checked) (os:=os) (X:=fun w _=>laidMetH Tryz.prog Abg w) false (World.laidAll Tryz.prog os Abg) #[.string ⟨#[]⟩,.string ⟨#[]⟩,.int .u8 0] 8 (World.laidAll_os _ _ _) (World.shaped_of_ZipB (by kernel_rfl) (by kernel_rfl)) (by kernel_rfl) (by kernel_rfl) (by kernel_rfl) (Bcv os _)) ?_
 intro W base args ds gs before hok hW hw hsh
 exact Bho (P:=Tryz.prog) (fn:=Tryz.f7) (n:=8) (tb:=4) [.str,.str,(.int .u8)] (by kernel_rfl) (by kernel_rfl) (by kernel_rfl) (by kernel_rfl) (by kernel_rfl) (by kernel_rfl) (by kernel_rfl)
  (fun ds hd=>by
   have hd':ds.length=3:=hd
   match ds,hd' with
   |[_,_,_],_=>rfl) Vz W base args ds gs before hok hW hw (Ap9 hsh)
theorem Abn:Rows.ParseBracketsSaid:=
 OpenClaim.holds_of_wide 7 Tryz.f7 rfl rfl rfl rfl rfl rfl rfl ⟨rfl,rfl,rfl,rfl,rfl⟩ rfl rfl rfl rfl rfl (by kernel_rfl) Tryz.func7 (by kernel_rfl)
  (of_decide_eq_true (by kernel_rfl)) (by unfold Func.isWrapper;first|(rw[if_pos (by decide +kernel)];kernel_rfl)|(rw[if_neg (by decide +kernel)];exact⟨rfl,rfl⟩))
  (fun os started H enc _=>Zk os started H enc)
theorem parseBrackets_card:Rows.ParseBracketsCardSaid:=
 Claim7.holds_tied_plain_at .later [] [.data,.pinned] true (true,"285f34a232541c18f21b5a0841e756d2493ff531e9e6e45928d161cde51535fa") false
  Abn (fun _ h=>by cases h) (by kernel_rfl) (fun _ h=>by cases h) parseBrackets_row_tie rfl ⟨rfl,rfl⟩ (by kernel_rfl) rfl
  (fun f fn hf hfn=>by
   obtain rfl:f=7:=Option.some.inj ((show Tryz.prog.funcNamed "cashbook/cashbooklaw15.ParseBrackets"=some 7 by kernel_rfl).symm.trans hf) |>.symm
   obtain rfl:fn=Tryz.f7:=(Option.some.inj (Tryz.func7.symm.trans hfn)).symm
   exact⟨by kernel_rfl,fun j t ht=>by
    have h1:Tryz.f7.params.toList.all (fun t=> !Tryz.prog.wantsStandIn t)=true:=by kernel_rfl
    have h2:=List.all_eq_true.1 h1 t (by have:=Array.mem_of_getElem? ht;simpa using this)
    have h3:Tryz.prog.wantsStandIn t=false:=by simpa using h2
    exact h3⟩)
  (by kernel_rfl)
end Go.Proofs.YtgmiodjnojkdkaaGreatDoor
end
