import Derived.Test.YtkpgcijaahgoeaaDoorTie
import Derived.Test.YtkpgcijaahgoeaaDoorCards
import Derived.SevenTiedAt
import Derived.Test.YtkpgcijaahgoeaaDoorRows
import Derived.Test.YtkpgcijaahgoeaaDoorC15
section
set_option linter.unusedVariables false
set_option linter.unusedSimpArgs false
set_option maxRecDepth 100000
namespace Go.Proofs.YtkpgcijaahgoeaaDoor
open Go Go.ChangeShapes Go.WideShapes Go.ChangeAt Go.RowKit Go.Av Go.Av.G
theorem lexBlanks_contract (xs : List PV) (hh : AllOf [(.slice T_api_Token.tt), (.int .i64), (.slice (.int .u8)), .str] xs) : Contract Tryd.prog 7 (xs.map .pv) [] ⟨.pv (.bool true), [], []⟩ := by
 obtain ⟨a0, y0, rfl, h0, hh⟩ := hh
 obtain ⟨a1, y1, rfl, h1, hh⟩ := hh
 obtain ⟨a2, y2, rfl, h2, hh⟩ := hh
 obtain ⟨a3, y3, rfl, h3, hh⟩ := hh
 obtain rfl : _ = [] := hh
 obtain ⟨n0, w0, rfl⟩ := of_slice (f := T_api_Token.pv) (wf := T_api_Token.wf) (fun xs h => T_api_Token.of h) h0
 obtain ⟨n1, rfl, w1⟩ := h1
 obtain ⟨n2, w2, rfl⟩ := of_slice (f := (eInt .u8)) (wf := (inR .u8)) (fun xs h => of_int h) h2
 obtain ⟨n3, rfl, w3⟩ := h3
 exact cashbooklaw14_LexBlanks_ok (lexBlanks_law n0 n1 n2 n3 w0 w1 w2 w3)
theorem lexBlanks_lifted (os : Os) (started : os.Started) (H : Type) (enc : TypeId × Value → H) :
  ReturnsInHanded {} Tryd.checked os 7 .any (fun w args => (Rows.lexBlanksSpec.pre enc Tryd.prog Tryd.f7 [] false w args ∧ laidMetH Tryd.prog theLaid w) ∧ sizedMet enc Tryd.prog Tryd.f7 (OpenSpec.ofChange Rows.lexBlanksSpec) false w args)
   (Rows.lexBlanksSpec.post enc Tryd.prog Tryd.f7 false true false false) := by
 refine returnsInHanded_of_change_and_shaped (C := Tryd.checked) (X := fun w _ => laidMetH Tryd.prog theLaid w) own started (by kernel_rfl) Tryd.func7
  (ChangeSpec.witness_shaped (enc := enc) (C := Tryd.checked) (os := os) (X := fun w _ => laidMetH Tryd.prog theLaid w) false (World.laidAll Tryd.prog os theLaid) #[.slice none 0 0, .int .i64 0, .slice none 0 0, .string ⟨#[]⟩] 8 (World.laidAll_os _ _ _) (World.shaped_of_ZipB (by kernel_rfl) (by kernel_rfl)) (by kernel_rfl) (by kernel_rfl) (by kernel_rfl) (laid_met os _)) ?_
 intro W base args ds gs before hok hW _ hsh
 exact law_at (P := Tryd.prog) (fn := Tryd.f7) (n := 8) (tb := 4) [(.slice T_api_Token.tt), (.int .i64), (.slice (.int .u8)), .str] (by kernel_rfl) (by kernel_rfl) (by kernel_rfl) (by kernel_rfl) (by kernel_rfl) (by kernel_rfl) (by kernel_rfl)
  (fun ds hd => by
   have hd' : ds.length = 4 := hd
   match ds, hd' with
   | [_, _, _, _], _ => rfl) lexBlanks_contract W base args ds gs before hok hW (gok_of_shaped hsh)
theorem lexBlanks_holds : Rows.LexBlanksSaid :=
 OpenClaim.holds_of_wide 7 Tryd.f7 rfl rfl rfl rfl rfl rfl rfl ⟨rfl, rfl, rfl, rfl, rfl⟩ rfl rfl rfl rfl rfl (by kernel_rfl) Tryd.func7 (by kernel_rfl)
  (of_decide_eq_true (by kernel_rfl)) (by unfold Func.isWrapper; first | (rw [if_pos (by decide +kernel)]; kernel_rfl) | (rw [if_neg (by decide +kernel)]; exact ⟨rfl, rfl⟩))
  (fun os started H enc _ => lexBlanks_lifted os started H enc)
theorem lexBlanks_card : Rows.LexBlanksCardSaid :=
 Claim7.holds_tied_plain_at .later [] [.data, .pinned] true (true, "1ec7cc4d2ac1d74556a6c2719f4193bede785ed3b27d0d556ff64e3ca1059df0") false
  lexBlanks_holds (fun _ h => by cases h) (by kernel_rfl) (fun _ h => by cases h) lexBlanks_row_tie rfl ⟨rfl, rfl⟩ (by kernel_rfl) rfl
  (fun f fn hf hfn => by
   obtain rfl : f = 7 := Option.some.inj ((show Tryd.prog.funcNamed "cashbook/cashbooklaw14.LexBlanks" = some 7 by kernel_rfl).symm.trans hf) |>.symm
   obtain rfl : fn = Tryd.f7 := (Option.some.inj (Tryd.func7.symm.trans hfn)).symm
   exact ⟨by kernel_rfl, fun j t ht => by
    have h1 : Tryd.f7.params.toList.all (fun t => !Tryd.prog.wantsStandIn t) = true := by kernel_rfl
    have h2 := List.all_eq_true.1 h1 t (by have := Array.mem_of_getElem? ht; simpa using this)
    have h3 : Tryd.prog.wantsStandIn t = false := by simpa using h2
    exact h3⟩)
  (by kernel_rfl)
end Go.Proofs.YtkpgcijaahgoeaaDoor
end
