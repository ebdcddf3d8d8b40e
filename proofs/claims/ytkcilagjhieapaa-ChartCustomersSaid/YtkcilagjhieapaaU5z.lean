/- chartCustomers: whatever the input, the law answers true, and the input reads as it did. No conditions. -/
import Derived.Test.YtkcilagjhieapaaU5p
import Derived.Test.YtkcilagjhieapaaUd1
import Derived.Test.YtkcilagjhieapaaRows
set_option linter.unusedVariables false
set_option linter.unusedSimpArgs false
set_option maxRecDepth 100000
namespace Go.Proofs.Ytkcilagjhieapaa
open Go Go.ChangeShapes Go.WideShapes Go.ChangeAt Go.RowKit Go.Av Go.Av.G
theorem chartCustomers_contract (xs : List PV) (hh : AllOf [T_api_Chart.tt] xs) : Contract Try.prog 5 (xs.map .pv) [] ⟨.pv (.bool true), [], []⟩ := by
  obtain ⟨a0, y0, rfl, h0, hh⟩ := hh
  obtain rfl : _ = [] := hh
  obtain ⟨n0, w0, e0⟩ := T_api_Chart.of h0
  obtain rfl := PV.agg.inj e0
  exact cashbooklaw18_ChartCustomers_ok (chartCustomers_plain n0 w0)
theorem chartCustomers_lifted (os : Os) (started : os.Started) (H : Type) (enc : TypeId × Value → H) :
    ReturnsInHanded {} Try.checked os 5 .any (Rows.chartCustomersSpec.pre6 enc Try.prog Try.f5 Rows.chartCustomersRow.domain false) (Rows.chartCustomersSpec.post enc Try.prog Try.f5 false true false false) := by
  refine returnsInHanded_of_change (C := Try.checked) (by kernel_rfl) started (by kernel_rfl) Try.func5
    (ChangeSpec.witness6 (enc := enc) (C := Try.checked) false ⟨#[], #[.agg #[.slice none 0 0, .slice none 0 0]], []⟩ 8 (by kernel_rfl) (by kernel_rfl) (by kernel_rfl) (by kernel_rfl)) ?_
  exact law_true (P := Try.prog) (fn := Try.f5) (n := 8) (tb := 4) [T_api_Chart.tt] (by kernel_rfl) (by kernel_rfl) (by kernel_rfl) (by kernel_rfl) (by kernel_rfl) (by kernel_rfl) (by kernel_rfl)
    (fun ds hd => by
      have hd' : ds.length = 1 := hd
      match ds, hd' with
      | [_], _ => rfl) chartCustomers_contract
theorem chartCustomers_holds : Rows.ChartCustomersSaid :=
  OpenClaim.holds_of_wide 5 Try.f5 rfl rfl rfl rfl rfl rfl rfl ⟨rfl, rfl, rfl, rfl, rfl⟩ rfl rfl rfl rfl rfl (by kernel_rfl) Try.func5 (by kernel_rfl)
    (of_decide_eq_true (by kernel_rfl)) (by unfold Func.isWrapper; first | (rw [if_pos (by decide +kernel)]; kernel_rfl) | (rw [if_neg (by decide +kernel)]; exact ⟨rfl, rfl⟩))
    (fun os started H enc _ => chartCustomers_lifted os started H enc)
end Go.Proofs.Ytkcilagjhieapaa
