/- Plain laws of a customer's accounts, by hand. -/
import Derived.Test.YtkcilagjhieapaaUcp
set_option linter.unusedVariables false
set_option linter.unusedSimpArgs false
set_option maxRecDepth 4000
namespace Go.Av.G
open Go Go.Av Go.Proofs

/-! ### a customer's accounts -/

def whoL (l : List T_api_Record) (id : Int) : List Int := l.foldl (fun s x => if (x.f_Customer == id) = true then s ++ [x.f_Acc] else s) []

theorem who_len (id : Int) : ∀ (l : List T_api_Record) (s : List Int), (l.foldl (fun s x => if (x.f_Customer == id) = true then s ++ [x.f_Acc] else s) s).length ≤ s.length + l.length
  | [], s => by simp
  | x :: l, s => by
    rw [List.foldl_cons]
    have := who_len id l (if (x.f_Customer == id) = true then s ++ [x.f_Acc] else s)
    split at this <;> simp_all <;> omega

theorem who_loop {l : List T_api_Record} {id : Int} (hn : l.length < 1000) : loopO (fun (qj5 : Int × (List Int)) => match qj5 with
        | (x6, l7) => (
          if (decide (x6 < (l.length : Int))) = true then
            (rdO l x6).bind fun x9 =>
            ((if (x9.f_Customer == id) = true then
              (apO 8 l7 [x9.f_Acc]).bind fun x11 =>
              some x11
            else
              some l7) : Option (List Int)).bind fun j10 =>
            some (.inl (IntKind.wrap .i64 (x6 + 1), j10))
          else
            some (.inr l7) : Option ((Int × (List Int)) ⊕ (List Int)))) (0, []) = some (whoL l id) := by
  refine loopL_fold (l := l) (fun s x => if (x.f_Customer == id) = true then s ++ [x.f_Acc] else s) (fun s => s) (by omega) ?_ ?_
  · intro i h
    have hw := who_len id (l.take i) []
    have hap : ∀ x, apO 8 ((l.take i).foldl (fun s x => if (x.f_Customer == id) = true then s ++ [x.f_Acc] else s) []) [x] = some ((l.take i).foldl (fun s x => if (x.f_Customer == id) = true then s ++ [x.f_Acc] else s) [] ++ [x]) := by
      intro x
      unfold apO
      rw [if_pos]
      simp only [List.length_take, List.length_nil, List.length_singleton] at hw ⊢
      omega
    simp only [decide_eq_true_eq]
    rw [if_pos (by omega), rdO_at h]
    simp only [Option.bind_some, hap]
    split <;> rfl
  · simp only [decide_eq_true_eq]
    rw [if_neg (by omega)]

theorem Who_bad {c : T_api_Chart} (hf : Fits c) (h : ¬ RightP c) (a : Int) : chart_Who c a = some (⟨0, [], 0⟩, [], 1) := by
  unfold chart_Who
  rw [Right_not hf h]
  rfl

theorem Who_none {c : T_api_Chart} (hf : Fits c) (h : RightP c) {a : Int} (hn : ∀ x ∈ c.f_Customers, x.f_ID ≠ a) : chart_Who c a = some (⟨0, [], 0⟩, [], 8) := by
  unfold chart_Who
  obtain ⟨k, _, e⟩ := placeC_none hf.1 h.2.2.1 hn
  rw [Right_at hf h, e]
  rfl

theorem Who_at {c : T_api_Chart} (hf : Fits c) (h : RightP c) {a : Int} {i : Nat} (hi : i < c.f_Customers.length) (he : c.f_Customers[i].f_ID = a) : chart_Who c a = some (c.f_Customers[i], whoL c.f_Records a, 0) := by
  unfold chart_Who
  rw [Right_at hf h, placeC_at hf.1 h.2.2.1 hi he]
  simp only [Option.bind_some, who_loop hf.2.1, rdO_at hi]
  rfl

end Go.Av.G
