/- chartTells: whatever the input, the law answers true, and the input reads as it did. No conditions. -/
import Derived.Test.YtkcilagjhieapaaT6p
import Derived.Test.YtkcilagjhieapaaRows
set_option linter.unusedVariables false
set_option linter.unusedSimpArgs false
set_option maxRecDepth 100000
namespace Go.Proofs.Ytkcilagjhieapaa
open Go Go.ChangeShapes Go.WideShapes Go.ChangeAt Go.RowKit Go.Av Go.Av.G
theorem chartTells_contract (xs : List PV) (hh : AllOf [T_api_Chart.tt, (.int .i64), (.int .i32), (.int .i64), (.int .i64)] xs) : Contract Try.prog 6 (xs.map .pv) [] ⟨.pv (.bool true), [], []⟩ := by
  obtain ⟨a0, y0, rfl, h0, hh⟩ := hh
  obtain ⟨a1, y1, rfl, h1, hh⟩ := hh
  obtain ⟨a2, y2, rfl, h2, hh⟩ := hh
  obtain ⟨a3, y3, rfl, h3, hh⟩ := hh
  obtain ⟨a4, y4, rfl, h4, hh⟩ := hh
  obtain rfl : _ = [] := hh
  obtain ⟨n0, w0, e0⟩ := T_api_Chart.of h0
  obtain rfl := PV.agg.inj e0
  obtain ⟨n1, rfl, w1⟩ := h1
  obtain ⟨n2, rfl, w2⟩ := h2
  obtain ⟨n3, rfl, w3⟩ := h3
  obtain ⟨n4, rfl, w4⟩ := h4
  exact cashbooklaw18_ChartTells_ok (chartTells_plain n0 n1 n2 n3 n4 w0 w1 w2 w3 w4)
theorem chartTells_lifted (os : Os) (started : os.Started) (H : Type) (enc : TypeId × Value → H) :
    ReturnsInHanded {} Try.checked os 6 .any (Rows.chartTellsSpec.pre6 enc Try.prog Try.f6 Rows.chartTellsRow.domain false) (Rows.chartTellsSpec.post enc Try.prog Try.f6 false true false false) := by
  refine returnsInHanded_of_change (C := Try.checked) (by kernel_rfl) started (by kernel_rfl) Try.func6
    (ChangeSpec.witness6 (enc := enc) (C := Try.checked) false ⟨#[], #[.agg #[.slice none 0 0, .slice none 0 0], .int .i64 0, .int .i32 0, .int .i64 0, .int .i64 0], []⟩ 8 (by kernel_rfl) (by kernel_rfl) (by kernel_rfl) (by kernel_rfl)) ?_
  exact law_true (P := Try.prog) (fn := Try.f6) (n := 8) (tb := 4) [T_api_Chart.tt, (.int .i64), (.int .i32), (.int .i64), (.int .i64)] (by kernel_rfl) (by kernel_rfl) (by kernel_rfl) (by kernel_rfl) (by kernel_rfl) (by kernel_rfl) (by kernel_rfl)
    (fun ds hd => by
      have hd' : ds.length = 5 := hd
      match ds, hd' with
      | [_, _, _, _, _], _ => rfl) chartTells_contract
theorem chartTells_holds : Rows.ChartTellsSaid :=
  OpenClaim.holds_of_wide 6 Try.f6 rfl rfl rfl rfl rfl rfl rfl ⟨rfl, rfl, rfl, rfl, rfl⟩ rfl rfl rfl rfl rfl (by kernel_rfl) Try.func6 (by kernel_rfl)
    (of_decide_eq_true (by kernel_rfl)) (by unfold Func.isWrapper; first | (rw [if_pos (by decide +kernel)]; kernel_rfl) | (rw [if_neg (by decide +kernel)]; exact ⟨rfl, rfl⟩))
    (fun os started H enc _ => chartTells_lifted os started H enc)
end Go.Proofs.Ytkcilagjhieapaa
