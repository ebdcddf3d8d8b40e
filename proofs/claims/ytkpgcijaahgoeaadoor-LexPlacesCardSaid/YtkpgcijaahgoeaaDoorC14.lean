import Derived.Test.YtkpgcijaahgoeaaDoorTie
import Derived.Test.YtkpgcijaahgoeaaDoorCards
import Derived.SevenTiedAt
import Derived.Test.YtkpgcijaahgoeaaDoorRows
import Derived.Test.YtkpgcijaahgoeaaDoorC13
section
set_option linter.unusedVariables false
set_option linter.unusedSimpArgs false
set_option maxRecDepth 100000
namespace Go.Proofs.YtkpgcijaahgoeaaDoor
open Go Go.ChangeShapes Go.WideShapes Go.ChangeAt Go.RowKit Go.Av Go.Av.G
theorem lexPlaces_contract (xs : List PV) (hh : AllOf [.str] xs) : Contract Tryd.prog 4 (xs.map .pv) [] ⟨.pv (.bool true), [], []⟩ := by
 obtain ⟨a0, y0, rfl, h0, hh⟩ := hh
 obtain rfl : _ = [] := hh
 obtain ⟨n0, rfl, w0⟩ := h0
 exact cashbooklaw14_LexPlaces_ok (lexPlaces_law n0 w0)
theorem lexPlaces_lifted (os : Os) (started : os.Started) (H : Type) (enc : TypeId × Value → H) :
  ReturnsInHanded {} Tryd.checked os 4 .any (fun w args => (Rows.lexPlacesSpec.pre enc Tryd.prog Tryd.f4 [] false w args ∧ laidMetH Tryd.prog theLaid w) ∧ sizedMet enc Tryd.prog Tryd.f4 (OpenSpec.ofChange Rows.lexPlacesSpec) false w args)
   (Rows.lexPlacesSpec.post enc Tryd.prog Tryd.f4 false true false false) := by
 refine returnsInHanded_of_change_and_shaped (C := Tryd.checked) (X := fun w _ => laidMetH Tryd.prog theLaid w) own started (by kernel_rfl) Tryd.func4
  (ChangeSpec.witness_shaped (enc := enc) (C := Tryd.checked) (os := os) (X := fun w _ => laidMetH Tryd.prog theLaid w) false (World.laidAll Tryd.prog os theLaid) #[.string ⟨#[]⟩] 8 (World.laidAll_os _ _ _) (World.shaped_of_ZipB (by kernel_rfl) (by kernel_rfl)) (by kernel_rfl) (by kernel_rfl) (by kernel_rfl) (laid_met os _)) ?_
 intro W base args ds gs before hok hW _ hsh
 exact law_at (P := Tryd.prog) (fn := Tryd.f4) (n := 8) (tb := 4) [.str] (by kernel_rfl) (by kernel_rfl) (by kernel_rfl) (by kernel_rfl) (by kernel_rfl) (by kernel_rfl) (by kernel_rfl)
  (fun ds hd => by
   have hd' : ds.length = 1 := hd
   match ds, hd' with
   | [_], _ => rfl) lexPlaces_contract W base args ds gs before hok hW (gok_of_shaped hsh)
theorem lexPlaces_holds : Rows.LexPlacesSaid :=
 OpenClaim.holds_of_wide 4 Tryd.f4 rfl rfl rfl rfl rfl rfl rfl ⟨rfl, rfl, rfl, rfl, rfl⟩ rfl rfl rfl rfl rfl (by kernel_rfl) Tryd.func4 (by kernel_rfl)
  (of_decide_eq_true (by kernel_rfl)) (by unfold Func.isWrapper; first | (rw [if_pos (by decide +kernel)]; kernel_rfl) | (rw [if_neg (by decide +kernel)]; exact ⟨rfl, rfl⟩))
  (fun os started H enc _ => lexPlaces_lifted os started H enc)
theorem lexPlaces_card : Rows.LexPlacesCardSaid :=
 Claim7.holds_tied_plain_at .later [] [.data, .pinned] true (true, "1ec7cc4d2ac1d74556a6c2719f4193bede785ed3b27d0d556ff64e3ca1059df0") false
  lexPlaces_holds (fun _ h => by cases h) (by kernel_rfl) (fun _ h => by cases h) lexPlaces_row_tie rfl ⟨rfl, rfl⟩ (by kernel_rfl) rfl
  (fun f fn hf hfn => by
   obtain rfl : f = 4 := Option.some.inj ((show Tryd.prog.funcNamed "cashbook/cashbooklaw14.LexPlaces" = some 4 by kernel_rfl).symm.trans hf) |>.symm
   obtain rfl : fn = Tryd.f4 := (Option.some.inj (Tryd.func4.symm.trans hfn)).symm
   exact ⟨by kernel_rfl, fun j t ht => by
    have h1 : Tryd.f4.params.toList.all (fun t => !Tryd.prog.wantsStandIn t) = true := by kernel_rfl
    have h2 := List.all_eq_true.1 h1 t (by have := Array.mem_of_getElem? ht; simpa using this)
    have h3 : Tryd.prog.wantsStandIn t = false := by simpa using h2
    exact h3⟩)
  (by kernel_rfl)
end Go.Proofs.YtkpgcijaahgoeaaDoor
end
