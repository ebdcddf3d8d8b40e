/- chartKeeps: whatever the input, the law answers true, and the input reads as it did. No conditions. -/
import Derived.Test.YtkcilagjhieapaaU4p
import Derived.Test.YtkcilagjhieapaaUd1
import Derived.Test.YtkcilagjhieapaaRows
set_option linter.unusedVariables false
set_option linter.unusedSimpArgs false
set_option maxRecDepth 100000
namespace Go.Proofs.Ytkcilagjhieapaa
open Go Go.ChangeShapes Go.WideShapes Go.ChangeAt Go.RowKit Go.Av Go.Av.G
theorem chartKeeps_contract (xs : List PV) (hh : AllOf [(.slice T_cashbooklaw18_Step.tt), (.int .i32)] xs) : Contract Try.prog 4 (xs.map .pv) [] ⟨.pv (.bool true), [], []⟩ := by
  obtain ⟨a0, y0, rfl, h0, hh⟩ := hh
  obtain ⟨a1, y1, rfl, h1, hh⟩ := hh
  obtain rfl : _ = [] := hh
  obtain ⟨n0, w0, rfl⟩ := of_slice (f := T_cashbooklaw18_Step.pv) (wf := T_cashbooklaw18_Step.wf) (fun xs h => T_cashbooklaw18_Step.of h) h0
  obtain ⟨n1, rfl, w1⟩ := h1
  exact cashbooklaw18_ChartKeeps_ok (chartKeeps_plain n0 n1 w0 w1)
theorem chartKeeps_lifted (os : Os) (started : os.Started) (H : Type) (enc : TypeId × Value → H) :
    ReturnsInHanded {} Try.checked os 4 .any (Rows.chartKeepsSpec.pre6 enc Try.prog Try.f4 Rows.chartKeepsRow.domain false) (Rows.chartKeepsSpec.post enc Try.prog Try.f4 false true false false) := by
  refine returnsInHanded_of_change (C := Try.checked) (by kernel_rfl) started (by kernel_rfl) Try.func4
    (ChangeSpec.witness6 (enc := enc) (C := Try.checked) false ⟨#[], #[.slice none 0 0, .int .i32 0], []⟩ 8 (by kernel_rfl) (by kernel_rfl) (by kernel_rfl) (by kernel_rfl)) ?_
  exact law_true (P := Try.prog) (fn := Try.f4) (n := 8) (tb := 4) [(.slice T_cashbooklaw18_Step.tt), (.int .i32)] (by kernel_rfl) (by kernel_rfl) (by kernel_rfl) (by kernel_rfl) (by kernel_rfl) (by kernel_rfl) (by kernel_rfl)
    (fun ds hd => by
      have hd' : ds.length = 2 := hd
      match ds, hd' with
      | [_, _], _ => rfl) chartKeeps_contract
theorem chartKeeps_holds : Rows.ChartKeepsSaid :=
  OpenClaim.holds_of_wide 4 Try.f4 rfl rfl rfl rfl rfl rfl rfl ⟨rfl, rfl, rfl, rfl, rfl⟩ rfl rfl rfl rfl rfl (by kernel_rfl) Try.func4 (by kernel_rfl)
    (of_decide_eq_true (by kernel_rfl)) (by unfold Func.isWrapper; first | (rw [if_pos (by decide +kernel)]; kernel_rfl) | (rw [if_neg (by decide +kernel)]; exact ⟨rfl, rfl⟩))
    (fun os started H enc _ => chartKeeps_lifted os started H enc)
end Go.Proofs.Ytkcilagjhieapaa
