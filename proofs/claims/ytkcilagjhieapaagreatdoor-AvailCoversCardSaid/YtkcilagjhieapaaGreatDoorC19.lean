import Derived.Test.YtkcilagjhieapaaGreatDoorTie
import Derived.Test.YtkcilagjhieapaaGreatDoorCards
import Derived.SevenTiedAt
import Derived.Test.YtkcilagjhieapaaGreatDoorRows
import Derived.Test.YtkcilagjhieapaaGreatDoorC18
section
set_option linter.unusedVariables false
set_option linter.unusedSimpArgs false
set_option maxRecDepth 100000
namespace Go.Proofs.YtkcilagjhieapaaGreatDoor
open Go Go.ChangeShapes Go.WideShapes Go.ChangeAt Go.RowKit Go.Av Go.Av.G
theorem availCovers_contract (xs : List PV) (hh : AllOf [T_api_Till.tt, T_api_Hold.tt] xs) : Contract Tryz.prog 6 (xs.map .pv) [] ⟨.pv (.bool true), [], []⟩ := by
 obtain ⟨a0, y0, rfl, h0, hh⟩ := hh
 obtain ⟨a1, y1, rfl, h1, hh⟩ := hh
 obtain rfl : _ = [] := hh
 obtain ⟨n0, w0, e0⟩ := T_api_Till.of h0
 obtain rfl := PV.agg.inj e0
 obtain ⟨n1, w1, e1⟩ := T_api_Hold.of h1
 obtain rfl := PV.agg.inj e1
 exact cashbooklaw26_AvailCovers_ok (availCovers_law n0 n1 w0 w1)
theorem availCovers_lifted (os : Os) (started : os.Started) (H : Type) (enc : TypeId × Value → H) :
  ReturnsInHanded {} Tryz.checked os 6 .any (fun w args => (Rows.availCoversSpec.pre enc Tryz.prog Tryz.f6 [] false w args ∧ laidMetH Tryz.prog theLaid w) ∧ sizedMet enc Tryz.prog Tryz.f6 (OpenSpec.ofChange Rows.availCoversSpec) false w args)
   (Rows.availCoversSpec.post enc Tryz.prog Tryz.f6 false true false false) := by
 refine returnsInHanded_of_change_and (C := Tryz.checked) (X := fun w _ => laidMetH Tryz.prog theLaid w) (fun _ _ _ hh h => h.of_heap hh) own started (by kernel_rfl) Tryz.func6
  (ChangeSpec.witness_at (enc := enc) (C := Tryz.checked) (os := os) (X := fun w _ => laidMetH Tryz.prog theLaid w) false (laidWorld os) #[.agg #[.slice none 0 0, .slice none 0 0, .slice none 0 0, .slice none 0 0, .slice none 0 0], .agg #[.int .i64 0, .int .i64 0, .int .i64 0, .int .i64 0, .int .i64 0, .int .i32 0, .int .i32 0, .int .i64 0, .bool false]] 8 rfl (by kernel_rfl) (by kernel_rfl) (by kernel_rfl) (by kernel_rfl) (by kernel_rfl) (laidWorld_met os _)) ?_
 intro W base args ds gs before hok hW _ _ hL _
 exact law_at (P := Tryz.prog) (fn := Tryz.f6) (n := 8) (tb := 4) [T_api_Till.tt, T_api_Hold.tt] (by kernel_rfl) (by kernel_rfl) (by kernel_rfl) (by kernel_rfl) (by kernel_rfl) (by kernel_rfl) (by kernel_rfl)
  (fun ds hd => by
   have hd' : ds.length = 2 := hd
   match ds, hd' with
   | [_, _], _ => rfl) availCovers_contract W base args ds gs before hok hW (gok_of_laid hL)
theorem availCovers_holds : Rows.AvailCoversSaid :=
 OpenClaim.holds_of_wide 6 Tryz.f6 rfl rfl rfl rfl rfl rfl rfl ⟨rfl, rfl, rfl, rfl, rfl⟩ rfl rfl rfl rfl rfl (by kernel_rfl) Tryz.func6 (by kernel_rfl)
  (of_decide_eq_true (by kernel_rfl)) (by unfold Func.isWrapper; first | (rw [if_pos (by decide +kernel)]; kernel_rfl) | (rw [if_neg (by decide +kernel)]; exact ⟨rfl, rfl⟩))
  (fun os started H enc _ => availCovers_lifted os started H enc)
theorem availCovers_card : Rows.AvailCoversCardSaid :=
 Claim7.holds_tied_plain_at .later [] [.handle] true (true, "b333b9a7da48aa090b8fb4c184cc8a1432ea4e46acd0569b70c4ad1dba03ef6d") true
  availCovers_holds (fun _ h => by cases h) (by kernel_rfl) (fun _ h => by cases h) availCovers_row_tie rfl ⟨rfl, rfl⟩ (by kernel_rfl) rfl
  (fun f fn hf hfn => by
   obtain rfl : f = 6 := Option.some.inj ((show Tryz.prog.funcNamed "cashbook/cashbooklaw26.AvailCovers" = some 6 by kernel_rfl).symm.trans hf) |>.symm
   obtain rfl : fn = Tryz.f6 := (Option.some.inj (Tryz.func6.symm.trans hfn)).symm
   exact ⟨by kernel_rfl, fun j t ht => by
    have h1 : Tryz.f6.params.toList.all (fun t => !Tryz.prog.wantsStandIn t) = true := by kernel_rfl
    have h2 := List.all_eq_true.1 h1 t (by have := Array.mem_of_getElem? ht; simpa using this)
    have h3 : Tryz.prog.wantsStandIn t = false := by simpa using h2
    exact h3⟩)
  (by kernel_rfl)
end Go.Proofs.YtkcilagjhieapaaGreatDoor
end
