/- chartGrows: whatever the input, the law answers true, and the input reads as it did. No conditions. -/
import Derived.Test.YtkcilagjhieapaaU3p
import Derived.Test.YtkcilagjhieapaaUd1
import Derived.Test.YtkcilagjhieapaaRows
set_option linter.unusedVariables false
set_option linter.unusedSimpArgs false
set_option maxRecDepth 100000
namespace Go.Proofs.Ytkcilagjhieapaa
open Go Go.ChangeShapes Go.WideShapes Go.ChangeAt Go.RowKit Go.Av Go.Av.G
theorem chartGrows_contract (xs : List PV) (hh : AllOf [T_api_Chart.tt, T_api_Customer.tt, T_api_Record.tt, (.int .i64), (.int .i32)] xs) : Contract Try.prog 3 (xs.map .pv) [] ⟨.pv (.bool true), [], []⟩ := by
  obtain ⟨a0, y0, rfl, h0, hh⟩ := hh
  obtain ⟨a1, y1, rfl, h1, hh⟩ := hh
  obtain ⟨a2, y2, rfl, h2, hh⟩ := hh
  obtain ⟨a3, y3, rfl, h3, hh⟩ := hh
  obtain ⟨a4, y4, rfl, h4, hh⟩ := hh
  obtain rfl : _ = [] := hh
  obtain ⟨n0, w0, e0⟩ := T_api_Chart.of h0
  obtain rfl := PV.agg.inj e0
  obtain ⟨n1, w1, e1⟩ := T_api_Customer.of h1
  obtain rfl := PV.agg.inj e1
  obtain ⟨n2, w2, e2⟩ := T_api_Record.of h2
  obtain rfl := PV.agg.inj e2
  obtain ⟨n3, rfl, w3⟩ := h3
  obtain ⟨n4, rfl, w4⟩ := h4
  exact cashbooklaw18_ChartGrows_ok (chartGrows_plain n0 n1 n2 n3 n4 w0 w1 w2 w3 w4)
theorem chartGrows_lifted (os : Os) (started : os.Started) (H : Type) (enc : TypeId × Value → H) :
    ReturnsInHanded {} Try.checked os 3 .any (Rows.chartGrowsSpec.pre6 enc Try.prog Try.f3 Rows.chartGrowsRow.domain false) (Rows.chartGrowsSpec.post enc Try.prog Try.f3 false true false false) := by
  refine returnsInHanded_of_change (C := Try.checked) (by kernel_rfl) started (by kernel_rfl) Try.func3
    (ChangeSpec.witness6 (enc := enc) (C := Try.checked) false ⟨#[], #[.agg #[.slice none 0 0, .slice none 0 0], .agg #[.int .i64 0, .string ⟨#[]⟩, .int .i64 0], .agg #[.int .i64 0, .int .i64 0, .int .i64 0, .int .i64 0, .int .i64 0, .int .i64 0, .int .i32 0, .int .i32 0], .int .i64 0, .int .i32 0], []⟩ 8 (by kernel_rfl) (by kernel_rfl) (by kernel_rfl) (by kernel_rfl)) ?_
  exact law_true (P := Try.prog) (fn := Try.f3) (n := 8) (tb := 4) [T_api_Chart.tt, T_api_Customer.tt, T_api_Record.tt, (.int .i64), (.int .i32)] (by kernel_rfl) (by kernel_rfl) (by kernel_rfl) (by kernel_rfl) (by kernel_rfl) (by kernel_rfl) (by kernel_rfl)
    (fun ds hd => by
      have hd' : ds.length = 5 := hd
      match ds, hd' with
      | [_, _, _, _, _], _ => rfl) chartGrows_contract
theorem chartGrows_holds : Rows.ChartGrowsSaid :=
  OpenClaim.holds_of_wide 3 Try.f3 rfl rfl rfl rfl rfl rfl rfl ⟨rfl, rfl, rfl, rfl, rfl⟩ rfl rfl rfl rfl rfl (by kernel_rfl) Try.func3 (by kernel_rfl)
    (of_decide_eq_true (by kernel_rfl)) (by unfold Func.isWrapper; first | (rw [if_pos (by decide +kernel)]; kernel_rfl) | (rw [if_neg (by decide +kernel)]; exact ⟨rfl, rfl⟩))
    (fun os started H enc _ => chartGrows_lifted os started H enc)
end Go.Proofs.Ytkcilagjhieapaa
