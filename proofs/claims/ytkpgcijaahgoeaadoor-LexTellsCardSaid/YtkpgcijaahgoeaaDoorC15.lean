import Derived.Test.YtkpgcijaahgoeaaDoorTie
import Derived.Test.YtkpgcijaahgoeaaDoorCards
import Derived.SevenTiedAt
import Derived.Test.YtkpgcijaahgoeaaDoorRows
import Derived.Test.YtkpgcijaahgoeaaDoorC14
section
set_option linter.unusedVariables false
set_option linter.unusedSimpArgs false
set_option maxRecDepth 100000
namespace Go.Proofs.YtkpgcijaahgoeaaDoor
open Go Go.ChangeShapes Go.WideShapes Go.ChangeAt Go.RowKit Go.Av Go.Av.G
theorem lexTells_contract (xs : List PV) (hh : AllOf [.str, (.int .i64)] xs) (hz : ∀ t, xs.head? = some (.str t) → t.length ≤ reachBytes) : Contract Tryd.prog 3 (xs.map .pv) [] ⟨.pv (.bool true), [], []⟩ := by
 obtain ⟨a0, y0, rfl, h0, hh⟩ := hh
 obtain ⟨a1, y1, rfl, h1, hh⟩ := hh
 obtain rfl : _ = [] := hh
 obtain ⟨n0, rfl, w0⟩ := h0
 obtain ⟨n1, rfl, w1⟩ := h1
 exact cashbooklaw14_LexTells_ok (lexTells_law n0 n1 (hz _ rfl) w1)
theorem lexTells_lifted (os : Os) (started : os.Started) (H : Type) (enc : TypeId × Value → H) :
  ReturnsInHanded {} Tryd.checked os 3 .any (fun w args => (Rows.lexTellsSpec.pre enc Tryd.prog Tryd.f3 [] false w args ∧ laidMetH Tryd.prog theLaid w) ∧ sizedMet enc Tryd.prog Tryd.f3 (OpenSpec.ofChange Rows.lexTellsSpec) false w args)
   (Rows.lexTellsSpec.post enc Tryd.prog Tryd.f3 false true false false) := by
 refine returnsInHanded_of_change_and_shaped (C := Tryd.checked) (X := fun w _ => laidMetH Tryd.prog theLaid w) own started (by kernel_rfl) Tryd.func3
  (ChangeSpec.witness_shaped (enc := enc) (C := Tryd.checked) (os := os) (X := fun w _ => laidMetH Tryd.prog theLaid w) false (World.laidAll Tryd.prog os theLaid) #[.string ⟨#[]⟩, .int .i64 0] 8 (World.laidAll_os _ _ _) (World.shaped_of_ZipB (by kernel_rfl) (by kernel_rfl)) (by kernel_rfl) (by kernel_rfl) (by kernel_rfl) (laid_met os _)) ?_
 intro W base args ds gs before hok hW hw hsh
 exact law_at_str (P := Tryd.prog) (fn := Tryd.f3) (n := 8) (tb := 4) [.str, (.int .i64)] (by kernel_rfl) (by kernel_rfl) (by kernel_rfl) (by kernel_rfl) (by kernel_rfl) (by kernel_rfl) (by kernel_rfl) (by kernel_rfl)
  (fun ds hd => by
   have hd' : ds.length = 2 := hd
   match ds, hd' with
   | [_, _], _ => rfl) lexTells_contract W base args ds gs before hok hW hw (gok_of_shaped hsh)
theorem lexTells_holds : Rows.LexTellsSaid :=
 OpenClaim.holds_of_wide 3 Tryd.f3 rfl rfl rfl rfl rfl rfl rfl ⟨rfl, rfl, rfl, rfl, rfl⟩ rfl rfl rfl rfl rfl (by kernel_rfl) Tryd.func3 (by kernel_rfl)
  (of_decide_eq_true (by kernel_rfl)) (by unfold Func.isWrapper; first | (rw [if_pos (by decide +kernel)]; kernel_rfl) | (rw [if_neg (by decide +kernel)]; exact ⟨rfl, rfl⟩))
  (fun os started H enc _ => lexTells_lifted os started H enc)
theorem lexTells_card : Rows.LexTellsCardSaid :=
 Claim7.holds_tied_plain_at .later [] [.data, .pinned] true (true, "1ec7cc4d2ac1d74556a6c2719f4193bede785ed3b27d0d556ff64e3ca1059df0") false
  lexTells_holds (fun _ h => by cases h) (by kernel_rfl) (fun _ h => by cases h) lexTells_row_tie rfl ⟨rfl, rfl⟩ (by kernel_rfl) rfl
  (fun f fn hf hfn => by
   obtain rfl : f = 3 := Option.some.inj ((show Tryd.prog.funcNamed "cashbook/cashbooklaw14.LexTells" = some 3 by kernel_rfl).symm.trans hf) |>.symm
   obtain rfl : fn = Tryd.f3 := (Option.some.inj (Tryd.func3.symm.trans hfn)).symm
   exact ⟨by kernel_rfl, fun j t ht => by
    have h1 : Tryd.f3.params.toList.all (fun t => !Tryd.prog.wantsStandIn t) = true := by kernel_rfl
    have h2 := List.all_eq_true.1 h1 t (by have := Array.mem_of_getElem? ht; simpa using this)
    have h3 : Tryd.prog.wantsStandIn t = false := by simpa using h2
    exact h3⟩)
  (by kernel_rfl)
end Go.Proofs.YtkpgcijaahgoeaaDoor
end
