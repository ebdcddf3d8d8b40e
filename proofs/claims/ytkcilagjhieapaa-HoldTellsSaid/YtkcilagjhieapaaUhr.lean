/- The document's answer for holds: what it computes, by hand. -/
import Derived.Test.YtkcilagjhieapaaUhx
set_option linter.unusedVariables false
set_option linter.unusedSimpArgs false
set_option maxRecDepth 4000
set_option maxHeartbeats 4000000
namespace Go.Av.G
open Go Go.Av Go.Proofs

theorem refMoney_eq (m : T_api_Money) : cashbookref03_Right m = some (okM m) := by
  have hn : cashbookref03_Name m.f_Cur = some (if m.f_Cur = 0 then [69, 85, 82] else if m.f_Cur = 1 then [74, 80, 89] else if m.f_Cur = 2 then [66, 72, 68] else if m.f_Cur = 3 then [85, 83, 68] else []) := by
    simp only [cashbookref03_Name, beq_iff_eq]
    split
    · rfl
    · split
      · rfl
      · split
        · rfl
        · split <;> rfl
  simp only [cashbookref03_Right, hn, Option.bind_some, Option.some.injEq, okM]
  have : (!((if m.f_Cur = 0 then ([69, 85, 82] : List UInt8) else if m.f_Cur = 1 then [74, 80, 89] else if m.f_Cur = 2 then [66, 72, 68] else if m.f_Cur = 3 then [85, 83, 68] else []) == [])) = decide (0 ≤ m.f_Cur ∧ m.f_Cur < 4) := by
    by_cases h0 : m.f_Cur = 0
    · simp [h0]
    · by_cases h1 : m.f_Cur = 1
      · simp [h1]
      · by_cases h2 : m.f_Cur = 2
        · simp [h2]
        · by_cases h3 : m.f_Cur = 3
          · simp [h3]
          · simp [h0, h1, h2, h3]; omega
  rw [this, Bool.eq_iff_iff]
  simp
  omega

theorem refRight_eq (h : T_api_Hold) : cashbookref25_Right h = some (okH h) := by
  simp only [cashbookref25_Right, refMoney_eq, cashbookref04_Right, Option.bind_some, okH, okM]
  split
  · rename_i hc
    simp only [Option.some.injEq]
    symm
    rw [decide_eq_false_iff_not]
    simp at hc
    omega
  · rename_i hc
    simp only [Option.some.injEq]
    rw [Bool.eq_iff_iff]
    simp at hc ⊢
    omega

theorem refLive_eq (h : T_api_Hold) (now : Int) : cashbookref25_Live h now = some (liveH h now) := by
  simp only [cashbookref25_Live, refRight_eq, Option.bind_some, Option.some.injEq, liveH]
  rw [Bool.eq_iff_iff]
  simp [and_assoc]

theorem refCheck_eq (l : List T_api_Hold) (hn : l.length < 4611686018427387904) : cashbookref25_Check l = some (chkH l) := by
  unfold cashbookref25_Check
  rw [loopL_any (l := l) (fun x => !okH x) (o := (Sum.inr 1 : Unit ⊕ Int)) (e := Sum.inl ()) hn]
  · unfold chkH
    cases l.any fun x => !okH x with
    | true => rfl
    | false =>
      simp only [Bool.false_eq_true, if_false, Option.bind_some]
      rw [loopI_any1 (n := l.length) (o := (Sum.inr 20 : Unit ⊕ Int)) (e := Sum.inl ()) (q := descends (fun x : T_api_Hold => x.f_ID) l) hn]
      · unfold badI
        cases (List.range' 1 (l.length - 1)).any (descends (fun x : T_api_Hold => x.f_ID) l) with
        | true => rfl
        | false =>
          simp only [Bool.false_eq_true, if_false, Option.bind_some, decide_eq_true_eq]
          by_cases h : 200 < l.length
          · rw [if_pos h, if_pos (by omega)]
          · rw [if_neg h, if_neg (by omega)]
      · intro i h0 h
        have e1 : IntKind.wrap .i64 ((i : Int) - 1) = ((i - 1 : Nat) : Int) := by rw [wrap64 (by omega) (by omega)]; omega
        simp only [decide_eq_true_eq, e1]
        rw [if_pos (by omega), rdO_at h, rdO_at (show i - 1 < l.length by omega), descends_at h0 h]
        simp only [Option.bind_some, decide_eq_true_eq, ge_iff_le]
        split <;> rfl
      · intro i h
        simp only [decide_eq_true_eq]
        rw [if_neg (by omega)]
  · intro i h
    simp only [decide_eq_true_eq]
    rw [if_pos (by omega), rdO_at h]
    simp only [Option.bind_some, refRight_eq]
    split <;> rfl
  · intro i h
    simp only [decide_eq_true_eq]
    rw [if_neg (by omega)]


end Go.Av.G
