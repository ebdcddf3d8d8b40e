/- holdRank: whatever the input, the law answers true, and the input reads as it did. No conditions. -/
import Derived.Test.YtkcilagjhieapaaUh1
import Derived.Test.YtkcilagjhieapaaU10q
import Derived.Test.YtkcilagjhieapaaRows
set_option linter.unusedVariables false
set_option linter.unusedSimpArgs false
set_option maxRecDepth 100000
namespace Go.Proofs.Ytkcilagjhieapaa
open Go Go.ChangeShapes Go.WideShapes Go.ChangeAt Go.RowKit Go.Av Go.Av.G
theorem holdRank_contract (xs : List PV) (hh : AllOf [(.slice T_api_Hold.tt), T_cashbooklaw25_Ask.tt] xs) : Contract Try.prog 10 (xs.map .pv) [] ⟨.pv (.bool true), [], []⟩ := by
  obtain ⟨a0, y0, rfl, h0, hh⟩ := hh
  obtain ⟨a1, y1, rfl, h1, hh⟩ := hh
  obtain rfl : _ = [] := hh
  obtain ⟨n0, w0, rfl⟩ := of_slice (f := T_api_Hold.pv) (wf := T_api_Hold.wf) (fun xs h => T_api_Hold.of h) h0
  obtain ⟨n1, w1, e1⟩ := T_cashbooklaw25_Ask.of h1
  obtain rfl := PV.agg.inj e1
  exact cashbooklaw25_HoldRank_ok (holdRank_law n0 n1 w0 w1)
theorem holdRank_lifted (os : Os) (started : os.Started) (H : Type) (enc : TypeId × Value → H) :
    ReturnsInHanded {} Try.checked os 10 .any (Rows.holdRankSpec.pre6 enc Try.prog Try.f10 Rows.holdRankRow.domain false) (Rows.holdRankSpec.post enc Try.prog Try.f10 false true false false) := by
  refine returnsInHanded_of_change (C := Try.checked) (by kernel_rfl) started (by kernel_rfl) Try.func10
    (ChangeSpec.witness6 (enc := enc) (C := Try.checked) false ⟨#[], #[.slice none 0 0, .agg #[.int .i64 0, .int .i64 0, .int .i32 0, .int .i64 0, .int .i64 0, .int .i64 0, .int .i64 0, .int .i64 0, .int .i64 0, .int .i64 0, .int .i32 0, .int .i32 0, .int .i64 0, .bool false]], []⟩ 8 (by kernel_rfl) (by kernel_rfl) (by kernel_rfl) (by kernel_rfl)) ?_
  exact law_true (P := Try.prog) (fn := Try.f10) (n := 8) (tb := 4) [(.slice T_api_Hold.tt), T_cashbooklaw25_Ask.tt] (by kernel_rfl) (by kernel_rfl) (by kernel_rfl) (by kernel_rfl) (by kernel_rfl) (by kernel_rfl) (by kernel_rfl)
    (fun ds hd => by
      have hd' : ds.length = 2 := hd
      match ds, hd' with
      | [_, _], _ => rfl) holdRank_contract
theorem holdRank_holds : Rows.HoldRankSaid :=
  OpenClaim.holds_of_wide 10 Try.f10 rfl rfl rfl rfl rfl rfl rfl ⟨rfl, rfl, rfl, rfl, rfl⟩ rfl rfl rfl rfl rfl (by kernel_rfl) Try.func10 (by kernel_rfl)
    (of_decide_eq_true (by kernel_rfl)) (by unfold Func.isWrapper; first | (rw [if_pos (by decide +kernel)]; kernel_rfl) | (rw [if_neg (by decide +kernel)]; exact ⟨rfl, rfl⟩))
    (fun os started H enc _ => holdRank_lifted os started H enc)
end Go.Proofs.Ytkcilagjhieapaa
