/- The plain law of ChartGrows, by hand. -/
import Derived.Test.YtkcilagjhieapaaUcp
set_option linter.unusedVariables false
set_option linter.unusedSimpArgs false
set_option maxRecDepth 4000
namespace Go.Av.G
open Go Go.Av Go.Proofs

/-- A loop over a list that gathers: the state laid out in any way. -/
theorem loopL_foldE {α S T O : Type} {f : T → Option (T ⊕ O)} {l : List α} (st : Int → S → T) (step : S → α → S) (out : S → O) {s0 : S} (hn : l.length < 4611686018427387904)
    (hin : ∀ (i : Nat) (h : i < l.length), f (st (i : Int) ((l.take i).foldl step s0)) = some (.inl (st (IntKind.wrap .i64 ((i : Int) + 1)) (step ((l.take i).foldl step s0) l[i]))))
    (hout : f (st (l.length : Int) (l.foldl step s0)) = some (.inr (out (l.foldl step s0)))) : loopO f (st 0 s0) = some (out (l.foldl step s0)) := by
  have key : ∀ k, k ≤ l.length → loopO f (st 0 s0) = loopO f (st (k : Int) ((l.take k).foldl step s0)) := by
    intro k
    induction k with
    | zero => intro _; rfl
    | succ k ih =>
      intro hk
      rw [ih (by omega), loopO_on (hin k (by omega)), wrap64 (by omega) (by omega), List.take_succ_eq_append_getElem (by omega), List.foldl_append]
      rfl
  rw [key l.length (Nat.le_refl _), List.take_length]
  exact loopO_out hout

theorem apO_ok {α : Type} {n : Nat} {xs ys : List α} (h : (xs.length + ys.length) * n ≤ 140737488355328) : apO n xs ys = some (xs ++ ys) := by
  unfold apO; rw [if_pos h]
theorem clone_ok {α : Type} {n : Nat} {xs : List α} (h : xs.length * n ≤ 140737488355328) : slices_Clone n xs = some xs := by
  unfold slices_Clone; rw [if_pos h]
theorem insO_ok {α : Type} {n k : Nat} {xs : List α} {e : α} (hk : k ≤ xs.length) (h : (xs.length + 1) * n ≤ 140737488355328) : insO n xs (k : Int) e = some (xs.take k ++ e :: xs.drop k) := by
  unfold insO; rw [if_pos ⟨by omega, by omega, h⟩]; rfl

/-! ### one more in its place -/

section
variable {α : Type} (key : α → Int) (n : Int) (x : α)

def insStep (s : Bool × List α) (y : α) : Bool × List α := if (!s.1 && decide (key y > n)) = true then (true, s.2 ++ [x] ++ [y]) else (s.1, s.2 ++ [y])

theorem insStep_len : ∀ (m : List α) (s : Bool × List α), (m.foldl (insStep key n x) s).2.length ≤ s.2.length + 2 * m.length
  | [], s => by simp
  | y :: m, s => by
    have := insStep_len m (insStep key n x s y)
    have h2 : (insStep key n x s y).2.length ≤ s.2.length + 2 := by unfold insStep; split <;> simp
    simp only [List.foldl_cons, List.length_cons]
    omega

theorem insStep_done : ∀ (m : List α) (s : List α), m.foldl (insStep key n x) (true, s) = (true, s ++ m)
  | [], s => by simp
  | y :: m, s => by
    have : insStep key n x (true, s) y = (true, s ++ [y]) := by simp [insStep]
    rw [List.foldl_cons, this, insStep_done m]
    simp

theorem insStep_lo : ∀ (m : List α) (s : List α), (∀ y ∈ m, key y < n) → m.foldl (insStep key n x) (false, s) = (false, s ++ m)
  | [], s, _ => by simp
  | y :: m, s, h => by
    have hy := h y (by simp)
    have : insStep key n x (false, s) y = (false, s ++ [y]) := by
      unfold insStep
      rw [if_neg (by simp; omega)]
    rw [List.foldl_cons, this, insStep_lo m _ (fun z hz => h z (by simp [hz]))]
    simp

theorem ins_fold {l : List α} {k : Nat} (hk : k ≤ l.length) (hlo : ∀ i (hi : i < l.length), i < k → key l[i] < n) (hup : ∀ i (hi : i < l.length), k ≤ i → n < key l[i]) :
    (if (!(l.foldl (insStep key n x) (false, [])).1) = true then (l.foldl (insStep key n x) (false, [])).2 ++ [x] else (l.foldl (insStep key n x) (false, [])).2) = l.take k ++ x :: l.drop k := by
  have h1 : (l.take k).foldl (insStep key n x) (false, []) = (false, l.take k) := by
    rw [insStep_lo]
    · simp
    · intro y hy
      obtain ⟨i, hi, rfl⟩ := List.getElem_of_mem hy
      simp at hi
      rw [List.getElem_take]
      exact hlo i (by omega) (by omega)
  have h2 : l.foldl (insStep key n x) (false, []) = (l.drop k).foldl (insStep key n x) (false, l.take k) := by
    rw [← h1, ← List.foldl_append, List.take_append_drop]
  rw [h2]
  by_cases hkl : k < l.length
  · have hd : l.drop k = l[k] :: l.drop (k + 1) := List.drop_eq_getElem_cons hkl
    have hs : insStep key n x (false, l.take k) l[k] = (true, l.take k ++ [x] ++ [l[k]]) := by
      unfold insStep
      rw [if_pos (by have := hup k hkl (Nat.le_refl _); simp; omega)]
    rw [hd, List.foldl_cons, hs, insStep_done]
    simp
  · have hd : l.drop k = [] := List.drop_eq_nil_of_le (by omega)
    rw [hd]
    simp
end

theorem refJoin_eq {c : T_api_Chart} {x : T_api_Customer} {k : Nat} (hf : Fits c) (hk : k ≤ c.f_Customers.length) (hlo : ∀ i (hi : i < c.f_Customers.length), i < k → c.f_Customers[i].f_ID < x.f_ID) (hup : ∀ i (hi : i < c.f_Customers.length), k ≤ i → x.f_ID < c.f_Customers[i].f_ID) :
    cashbookref18_Join c x = some ⟨c.f_Customers.take k ++ x :: c.f_Customers.drop k, c.f_Records⟩ := by
  have hn := hf.1
  unfold cashbookref18_Join
  have hlen := insStep_len (·.f_ID) x.f_ID x
  rw [show ((false, (0 : Int), ([] : List T_api_Customer)) : Bool × Int × List T_api_Customer) = (fun (i : Int) (s : Bool × List T_api_Customer) => (s.1, i, s.2)) 0 (false, []) from rfl,
    loopL_foldE (l := c.f_Customers) (fun (i : Int) (s : Bool × List T_api_Customer) => (s.1, i, s.2)) (insStep (·.f_ID) x.f_ID x) (fun s => (s.1, s.2)) (by omega)]
  · rw [← ins_fold (·.f_ID) x.f_ID x hk hlo hup]
    have hl := hlen c.f_Customers (false, [])
    simp only [List.length_nil] at hl
    generalize c.f_Customers.foldl (insStep (·.f_ID) x.f_ID x) (false, []) = s at hl ⊢
    obtain ⟨b, s⟩ := s
    simp only [Option.bind_some]
    cases b with
    | true => simp
    | false =>
      simp only [Bool.not_false, if_true]
      rw [apO_ok (by simp at hl ⊢; omega)]
      rfl
  · intro i h
    have hl := hlen (c.f_Customers.take i) (false, [])
    simp only [List.length_nil, List.length_take] at hl
    generalize (c.f_Customers.take i).foldl (insStep (·.f_ID) x.f_ID x) (false, []) = s at hl ⊢
    obtain ⟨b, s⟩ := s
    simp only at hl
    simp only [decide_eq_true_eq]
    rw [if_pos (by omega), rdO_at h]
    simp only [Option.bind_some, insStep]
    by_cases hc : (!b && decide (c.f_Customers[i].f_ID > x.f_ID)) = true
    · rw [if_pos hc, if_pos hc, apO_ok (by simp; omega)]
      simp only [Option.bind_some]
      rw [apO_ok (by simp; omega)]
      rfl
    · rw [if_neg hc, if_neg hc]
      simp only [Option.bind_some]
      rw [apO_ok (by simp; omega)]
      rfl
  · simp only [decide_eq_true_eq]
    rw [if_neg (by omega)]

theorem refOpen_eq {c : T_api_Chart} {x : T_api_Record} {k : Nat} (hf : Fits c) (hk : k ≤ c.f_Records.length) (hlo : ∀ i (hi : i < c.f_Records.length), i < k → c.f_Records[i].f_Acc < x.f_Acc) (hup : ∀ i (hi : i < c.f_Records.length), k ≤ i → x.f_Acc < c.f_Records[i].f_Acc) :
    cashbookref18_Open c x = some ⟨c.f_Customers, c.f_Records.take k ++ x :: c.f_Records.drop k⟩ := by
  have hn := hf.2.1
  unfold cashbookref18_Open
  have hlen := insStep_len (·.f_Acc) x.f_Acc x
  rw [show ((false, (0 : Int), ([] : List T_api_Record)) : Bool × Int × List T_api_Record) = (fun (i : Int) (s : Bool × List T_api_Record) => (s.1, i, s.2)) 0 (false, []) from rfl,
    loopL_foldE (l := c.f_Records) (fun (i : Int) (s : Bool × List T_api_Record) => (s.1, i, s.2)) (insStep (·.f_Acc) x.f_Acc x) (fun s => (s.1, s.2)) (by omega)]
  · rw [← ins_fold (·.f_Acc) x.f_Acc x hk hlo hup]
    have hl := hlen c.f_Records (false, [])
    simp only [List.length_nil] at hl
    generalize c.f_Records.foldl (insStep (·.f_Acc) x.f_Acc x) (false, []) = s at hl ⊢
    obtain ⟨b, s⟩ := s
    simp only [Option.bind_some]
    cases b with
    | true => simp
    | false =>
      simp only [Bool.not_false, if_true]
      rw [apO_ok (by simp at hl ⊢; omega)]
      rfl
  · intro i h
    have hl := hlen (c.f_Records.take i) (false, [])
    simp only [List.length_nil, List.length_take] at hl
    generalize (c.f_Records.take i).foldl (insStep (·.f_Acc) x.f_Acc x) (false, []) = s at hl ⊢
    obtain ⟨b, s⟩ := s
    simp only at hl
    simp only [decide_eq_true_eq]
    rw [if_pos (by omega), rdO_at h]
    simp only [Option.bind_some, insStep]
    by_cases hc : (!b && decide (c.f_Records[i].f_Acc > x.f_Acc)) = true
    · rw [if_pos hc, if_pos hc, apO_ok (by simp; omega)]
      simp only [Option.bind_some]
      rw [apO_ok (by simp; omega)]
      rfl
    · rw [if_neg hc, if_neg hc]
      simp only [Option.bind_some]
      rw [apO_ok (by simp; omega)]
      rfl
  · simp only [decide_eq_true_eq]
    rw [if_neg (by omega)]

/-! ### one record with another day -/

def setTo (r : T_api_Record) (d : Int) : T_api_Record := ⟨r.f_Acc, r.f_Kind, r.f_Cur, r.f_Customer, r.f_Product, r.f_Partition, r.f_From, d⟩

theorem refClose_eq {c : T_api_Chart} {i : Nat} {d : Int} (hf : Fits c) (hi : i < c.f_Records.length) : cashbookref18_Close c (i : Int) d = some ⟨c.f_Customers, c.f_Records.set i (setTo c.f_Records[i] d)⟩ := by
  have hn := hf.2.1
  unfold cashbookref18_Close
  have key : ∀ k, k ≤ c.f_Records.length → loopO (fun (qj4 : Int × (List T_api_Record)) => match qj4 with
    | (x5, row6) => (
      if (decide (x5 < (c.f_Records.length : Int))) = true then
        (rdO c.f_Records x5).bind fun x7 =>
        ((if (x5 == (i : Int)) = true then
          some d
        else
          some x7.f_To) : Option Int).bind fun j8 =>
        (apO 56 row6 [(⟨x7.f_Acc, x7.f_Kind, x7.f_Cur, x7.f_Customer, x7.f_Product, x7.f_Partition, x7.f_From, j8⟩ : T_api_Record)]).bind fun x10 =>
        some (.inl (IntKind.wrap .i64 (x5 + 1), x10))
      else
        some (.inr row6) : Option ((Int × (List T_api_Record)) ⊕ (List T_api_Record)))) ((k : Int), (c.f_Records.set i (setTo c.f_Records[i] d)).take k) = some (c.f_Records.set i (setTo c.f_Records[i] d)) := by
    intro k hk
    induction hm : c.f_Records.length - k generalizing k with
    | zero =>
      refine loopO_out ?_
      simp only [decide_eq_true_eq]
      rw [if_neg (by omega), List.take_of_length_le (by simp; omega)]
    | succ m ih =>
      have hkl : k < c.f_Records.length := by omega
      have := ih (k + 1) (by omega) (by omega)
      rw [← this]
      refine loopO_on ?_
      simp only [decide_eq_true_eq]
      rw [if_pos (by omega), rdO_at hkl]
      simp only [Option.bind_some]
      have hw : IntKind.wrap .i64 ((k : Int) + 1) = ((k + 1 : Nat) : Int) := by rw [wrap64 (by omega) (by omega)]; rfl
      have ht : (c.f_Records.set i (setTo c.f_Records[i] d)).take (k + 1) = (c.f_Records.set i (setTo c.f_Records[i] d)).take k ++ [(c.f_Records.set i (setTo c.f_Records[i] d))[k]'(by simp; omega)] := List.take_succ_eq_append_getElem (by simp; omega)
      by_cases e : k = i
      · subst e
        rw [if_pos (by simp)]
        simp only [Option.bind_some]
        rw [apO_ok (by simp; omega), hw, ht]
        simp [setTo]
      · rw [if_neg (by simp; omega)]
        simp only [Option.bind_some]
        rw [apO_ok (by simp; omega), hw, ht]
        simp [List.getElem_set, Ne.symm e]
  have := key 0 (Nat.zero_le _)
  simp only [List.take_zero] at this
  rw [show ((0 : Nat) : Int) = 0 from rfl] at this
  rw [this]
  rfl

/-! ### sameness -/

theorem any_no {α : Type} (l : List α) : (l.any fun _ => false) = false := by induction l <;> simp_all

theorem Same_refl (c : T_api_Chart) (h1 : c.f_Customers.length < 4611686018427387904) (h2 : c.f_Records.length < 4611686018427387904) : cashbookref18_Same c c = some true := by
  unfold cashbookref18_Same
  simp only [bne_self_eq_false, Option.bind_some, Bool.or_self, Bool.false_eq_true, if_false]
  rw [loopL_any (l := c.f_Customers) (fun _ => false) (o := Sum.inr false) (e := Sum.inl ()) h1]
  · simp only [any_no, Bool.false_eq_true, if_false, Option.bind_some]
    rw [loopL_any (l := c.f_Records) (fun _ => false) (o := Sum.inr false) (e := Sum.inl ()) h2]
    · simp only [any_no, Bool.false_eq_true, if_false, Option.bind_some]
    · intro i h
      simp only [decide_eq_true_eq, rdO_at h, Option.bind_some, sameR]
      rw [if_pos (by omega)]
      simp
    · intro i h
      simp only [decide_eq_true_eq]
      rw [if_neg (by omega)]
  · intro i h
    simp only [decide_eq_true_eq, rdO_at h, Option.bind_some, sameC]
    rw [if_pos (by omega)]
    simp
  · intro i h
    simp only [decide_eq_true_eq]
    rw [if_neg (by omega)]

theorem Same_nil : cashbookref18_Same ⟨[], []⟩ ⟨[], []⟩ = some true := Same_refl _ (by simp) (by simp)

/-! ### what is asked of a chart -/

theorem idx_cases {α : Type} (l : List α) (p : α → Bool) : (∃ i, fstIdx l p = some i ∧ ∃ h : i < l.length, p l[i] = true ∧ l.any p = true) ∨ (fstIdx l p = none ∧ l.any p = false) := by
  cases h : fstIdx l p with
  | some i =>
    obtain ⟨hi, h1, _⟩ := fstIdx_some h
    exact .inl ⟨i, rfl, hi, h1, List.any_eq_true.2 ⟨_, List.getElem_mem hi, h1⟩⟩
  | none =>
    refine .inr ⟨rfl, ?_⟩
    have := fstIdx_none h
    rw [Bool.eq_false_iff]
    intro hc
    obtain ⟨x, hx, hp⟩ := List.any_eq_true.1 hc
    rw [this x hx] at hp; cases hp

theorem Join_no {c : T_api_Chart} {x : T_api_Customer} (hf : Fits c) (h : ¬ RightP c) : chart_Join c x = some (⟨[], []⟩, 1) := by
  unfold chart_Join
  rw [Right_not hf h]
  rfl
theorem Open_no {c : T_api_Chart} {r : T_api_Record} (hf : Fits c) (h : ¬ RightP c) : chart_Open c r = some (⟨[], []⟩, 1) := by
  unfold chart_Open
  rw [Right_not hf h]
  rfl
theorem Close_no {c : T_api_Chart} {a d : Int} (hf : Fits c) (h : ¬ RightP c) : chart_Close c a d = some (⟨[], []⟩, 1) := by
  unfold chart_Close
  rw [Find_bad hf h]
  rfl

/-- What joins, or why not: as the document says. -/
theorem Join_spec {c : T_api_Chart} {x : T_api_Customer} (hf : Fits c) (h : RightP c) : ∃ p w, chart_Join c x = some (p, w) ∧ (if (!okC x) = true then some 1 else (cashbookref18_PlaceOf c.f_Customers x.f_ID).bind fun x26 => if (decide (x26 ≥ 0)) = true then some 26 else if ((c.f_Customers.length : Int) == 100) = true then some 6 else some 0) = some w ∧
    (w = 0 → cashbookref18_Join c x = some p) ∧ (w ≠ 0 → p = ⟨[], []⟩) ∧ p.f_Customers.length < 2000 ∧ p.f_Records.length < 2000 := by
  have hn := hf.1
  have hn2 := hf.2.1
  unfold chart_Join
  rw [Right_at hf h]
  simp only [Option.bind_some, Bool.not_true, isCustomer_eq, gdO, Bool.not_false, Bool.false_or]
  cases hx : okC x with
  | false => exact ⟨_, _, rfl, rfl, fun e => absurd e (by decide), fun _ => rfl, by simp, by simp⟩
  | true =>
    simp only [Bool.not_true, Bool.false_eq_true, if_false]
    rw [placeOf_eq _ _ (by omega)]
    rcases idx_cases c.f_Customers (fun y => y.f_ID == x.f_ID) with ⟨i, e, hi, h1, _⟩ | ⟨e, h1⟩
    · simp only [beq_iff_eq] at h1
      rw [placeC_at hf.1 h.2.2.1 hi h1, e]
      refine ⟨_, _, rfl, ?_, fun e => absurd e (by decide), fun _ => rfl, by simp, by simp⟩
      simp only [Option.bind_some, decide_eq_true_eq]
      rw [if_pos (by omega)]
    · have hne : ∀ y ∈ c.f_Customers, y.f_ID ≠ x.f_ID := fun y hy e' => by
        have := List.any_eq_false.1 h1 y hy
        simp [e'] at this
      obtain ⟨k, b, ep, hk, q1, q2, hlo, hup⟩ := chart_place_Customer_int_spec c.f_Customers x.f_ID (by omega) h.2.2.1
      have hb : b = false := by
        cases b with
        | false => rfl
        | true => obtain ⟨hk', e'⟩ := q1 rfl; exact absurd e' (hne _ (List.getElem_mem hk'))
      subst hb
      rw [ep, e]
      simp only [Option.bind_some, Bool.false_eq_true, if_false]
      have hd : decide ((-1 : Int) ≥ 0) = false := by decide
      rw [hd]
      simp only [Bool.false_eq_true, if_false]
      by_cases hl : ((c.f_Customers.length : Int) == 100) = true
      · rw [if_pos hl, if_pos hl]
        exact ⟨_, _, rfl, rfl, fun e => absurd e (by decide), fun _ => rfl, by simp, by simp⟩
      · rw [if_neg hl, if_neg hl, clone_ok (by omega), clone_ok (by omega)]
        simp only [Option.bind_some]
        rw [insO_ok hk (by omega)]
        refine ⟨_, _, rfl, rfl, fun _ => ?_, fun h => absurd rfl h, ?_, ?_⟩
        · rw [refJoin_eq hf hk hlo (hup rfl)]
        · simp; omega
        · simp; omega

/-- What is opened, or why not: as the document says. -/
theorem Open_spec {c : T_api_Chart} {r : T_api_Record} {a b : Bool} (hf : Fits c) (h : RightP c) (hok : okR (setTo r 50000) = (a && b)) : ∃ p w, chart_Open c r = some (p, w) ∧
    (if ((!a) || (!(bif !!a then b else default))) = true then some 1 else
      (some (decide (r.f_Customer > 0))).bind fun c39 =>
      (gdO c39 (cashbookref18_PlaceOf c.f_Customers r.f_Customer) (default : Int)).bind fun x40 =>
      if (c39 && (decide (x40 < 0))) = true then some 8 else
        (cashbookref18_Place c.f_Records r.f_Acc).bind fun x41 =>
        if (decide (x41 ≥ 0)) = true then some 26 else if ((c.f_Records.length : Int) == 200) = true then some 6 else some 0) = some w ∧
    (w = 0 → cashbookref18_Open c (setTo r 50000) = some p) ∧ (w ≠ 0 → p = ⟨[], []⟩) ∧ p.f_Customers.length < 2000 ∧ p.f_Records.length < 2000 := by
  have hn := hf.1
  have hn2 := hf.2.1
  unfold chart_Open
  rw [Right_at hf h]
  have hrec : chart_isRecord (⟨r.f_Acc, r.f_Kind, r.f_Cur, r.f_Customer, r.f_Product, r.f_Partition, r.f_From, 50000⟩ : T_api_Record) = some (a && b) := by rw [isRecord_eq, ← hok]; rfl
  simp only [Option.bind_some, Bool.not_true, hrec, gdO_some, Bool.not_false, Bool.false_or, cond_true]
  cases hx : (a && b) with
  | false =>
    refine ⟨_, _, rfl, ?_, fun e => absurd e (by decide), fun _ => rfl, by simp, by simp⟩
    rw [if_pos]
    cases a <;> cases b <;> first | rfl | (cases hx)
  | true =>
    obtain ⟨rfl, rfl⟩ : a = true ∧ b = true := by simpa using hx
    simp only [Bool.not_true, Bool.false_eq_true, if_false, Bool.not_false, cond_true, Bool.or_self]
    obtain ⟨kc, bc, ec, hkc, c1, c2, _, _⟩ := chart_place_Customer_int_spec c.f_Customers r.f_Customer (by omega) h.2.2.1
    have hcany := place_any c1 c2
    obtain ⟨m, hm1, hm2⟩ : ∃ m, cashbookref18_PlaceOf c.f_Customers r.f_Customer = some m ∧ decide (m < 0) = !bc := ⟨_, placeOf_eq _ _ (by omega), by rw [← hcany]; exact find_neg (l := c.f_Customers) (p := fun x => x.f_ID == r.f_Customer)⟩
    rw [hm1, ec, placeR_eq _ _ (by omega)]
    simp only [Option.bind_some, gdO_some]
    have hbad : (decide (r.f_Customer > 0) && !bc) = (decide (r.f_Customer > 0) && decide ((bif decide (r.f_Customer > 0) then m else default) < 0)) := by
      cases hd : decide (r.f_Customer > 0) with
      | false => rfl
      | true => simp only [cond_true, Bool.true_and]; exact hm2.symm
    rcases idx_cases c.f_Records (fun y => y.f_Acc == r.f_Acc) with ⟨i, e, hi, h1, _⟩ | ⟨e, h1⟩
    · simp only [beq_iff_eq] at h1
      rw [placeR_at hf.2.1 h.2.2.2.1 hi h1, e]
      simp only [Option.bind_some]
      rw [← hbad]
      cases hb : (decide (r.f_Customer > 0) && !bc) with
      | true => exact ⟨_, _, rfl, rfl, fun e => absurd e (by decide), fun _ => rfl, by simp, by simp⟩
      | false =>
        refine ⟨_, _, rfl, ?_, fun e => absurd e (by decide), fun _ => rfl, by simp, by simp⟩
        simp only [Bool.false_eq_true, if_false, decide_eq_true_eq]
        rw [if_pos (by omega)]
    · have hne : ∀ y ∈ c.f_Records, y.f_Acc ≠ r.f_Acc := fun y hy e' => by
        have := List.any_eq_false.1 h1 y hy
        simp [e'] at this
      obtain ⟨k, b, ep, hk, q1, q2, hlo, hup⟩ := chart_place_Record_Account_spec c.f_Records r.f_Acc (by omega) h.2.2.2.1
      have hb : b = false := by
        cases b with
        | false => rfl
        | true => obtain ⟨hk', e'⟩ := q1 rfl; exact absurd e' (hne _ (List.getElem_mem hk'))
      subst hb
      rw [ep, e]
      simp only [Option.bind_some]
      rw [← hbad]
      cases hb : (decide (r.f_Customer > 0) && !bc) with
      | true => exact ⟨_, _, rfl, rfl, fun e => absurd e (by decide), fun _ => rfl, by simp, by simp⟩
      | false =>
        simp only [Bool.false_eq_true, if_false]
        have hd : decide ((-1 : Int) ≥ 0) = false := by decide
        rw [hd]
        simp only [Bool.false_eq_true, if_false]
        by_cases hl : ((c.f_Records.length : Int) == 200) = true
        · rw [if_pos hl, if_pos hl]
          exact ⟨_, _, rfl, rfl, fun e => absurd e (by decide), fun _ => rfl, by simp, by simp⟩
        · rw [if_neg hl, if_neg hl, clone_ok (by omega), clone_ok (by omega)]
          simp only [Option.bind_some]
          rw [insO_ok hk (by omega)]
          refine ⟨_, _, rfl, rfl, fun _ => ?_, fun h => absurd rfl h, ?_, ?_⟩
          · rw [refOpen_eq (x := setTo r 50000) hf hk hlo (hup rfl)]
            rfl
          · simp; omega
          · simp; omega

theorem Close_none {c : T_api_Chart} {a d : Int} (hf : Fits c) (h : RightP c) (hn : ∀ x ∈ c.f_Records, x.f_Acc ≠ a) : chart_Close c a d = some (⟨[], []⟩, 8) := by
  unfold chart_Close
  rw [Find_none hf h hn]
  rfl

theorem Close_at {c : T_api_Chart} {a d : Int} (hf : Fits c) (h : RightP c) {i : Nat} (hi : i < c.f_Records.length) (he : c.f_Records[i].f_Acc = a) : chart_Close c a d = some (
    if (c.f_Records[i].f_To != 50000) = true then (⟨[], []⟩, 16) else if ((!(decide (-50000 ≤ d) && decide (d ≤ 50000))) || decide (d < c.f_Records[i].f_From)) = true then (⟨[], []⟩, 11) else
      (⟨c.f_Customers, c.f_Records.set i (setTo c.f_Records[i] d)⟩, 0)) := by
  have hn := hf.1
  have hn2 := hf.2.1
  unfold chart_Close
  rw [Find_at hf h hi he]
  simp only [Option.bind_some, bne_self_eq_false, Bool.false_eq_true, if_false, date_Right, ge_iff_le]
  rw [placeR_at hf.2.1 h.2.2.2.1 hi he]
  split
  · rfl
  · split
    · rfl
    · simp only [Option.bind_some]
      rw [clone_ok (by omega), clone_ok (by omega)]
      simp only [Option.bind_some, rdO_at hi]
      rfl

/-! ### the law -/

theorem phase {w : Int} {J : Option T_api_Chart} {p : T_api_Chart} (h1 : w = 0 → J = some p) (h2 : w ≠ 0 → p = ⟨[], []⟩) (hs : cashbookref18_Same p p = some true) (K : Option Bool) :
    ((gdO (w == 0) J default).bind fun x30 => (gdO (w == 0) (cashbookref18_Same p x30) default).bind fun x31 => (gdO (!(w == 0 && !x31) && w != 0) (cashbookref18_Same p ⟨[], []⟩) default).bind fun x34 =>
      if (w == 0 && !x31 || w != 0 && !x34) = true then some false else K) = K := by
  by_cases hw : w = 0
  · subst hw
    simp [gdO, h1 rfl, hs]
  · have e1 : (w == 0) = false := by simpa using hw
    have e2 : (w != 0) = true := by simpa using hw
    simp [gdO, e1, e2, h2 hw, Same_nil]

theorem chartGrows_plain (c : T_api_Chart) (x : T_api_Customer) (r : T_api_Record) (a d : Int) (hc : c.wf) (hx : x.wf) (hr : r.wf) (ha : inR .i64 a) (hd : inR .i32 d) : cashbooklaw18_ChartGrows c x r a d = some true := by
  unfold cashbooklaw18_ChartGrows
  obtain ⟨c', e, hf⟩ := few_spec c
  have hx' := slO_cap x.f_Name 40
  rw [show ((40 : Nat) : Int) = 40 from rfl] at hx'
  rw [e]
  simp only [Option.bind_some, hx']
  generalize hxx : (⟨x.f_ID, x.f_Name.take 40, x.f_Kind⟩ : T_api_Customer) = y
  have hyid : x.f_ID = y.f_ID := by rw [← hxx]
  have hyl : y.f_Name.length < 4611686018427387904 := by rw [← hxx]; simp; omega
  rw [hyid]
  have hrr : (⟨r.f_Acc, r.f_Kind, r.f_Cur, r.f_Customer, r.f_Product, r.f_Partition, r.f_From, 50000⟩ : T_api_Record) = setTo r 50000 := rfl
  rw [hrr]
  by_cases h : RightP c'
  · rw [Right_at hf h, refRight_at hf h]
    obtain ⟨p, w, j1, j2, j3, j4, j5, j6⟩ := Join_spec (x := y) hf h
    obtain ⟨ra, rb, k1, k2, k3⟩ := refRec_eqs (setTo r 50000)
    obtain ⟨q, v, o1, o2, o3, o4, o5, o6⟩ := Open_spec (r := r) hf h k3
    rw [j1, o1]
    have hcl : ∃ s, chart_Close c' a d = some s := by
      rcases idx_cases c'.f_Records (fun z => z.f_Acc == a) with ⟨i, _, hi, h1, _⟩ | ⟨_, h1⟩
      · simp only [beq_iff_eq] at h1
        exact ⟨_, Close_at hf h hi h1⟩
      · exact ⟨_, Close_none hf h (fun z hz e' => by have := List.any_eq_false.1 h1 z hz; simp [e'] at this)⟩
    obtain ⟨s, hs⟩ := hcl
    rw [hs]
    simp only [Option.bind_some, alive, gdO_some, refCustomer_eq y hyl, bne_self_eq_false, beq_self_eq_true, Bool.not_true, Bool.not_false, cond_true, Bool.or_self, Bool.false_eq_true, if_false]
    rw [j2]
    have hsame : cashbookref18_Same p p = some true := Same_refl p (by omega) (by omega)
    have hsame2 : cashbookref18_Same q q = some true := Same_refl q (by omega) (by omega)
    simp only [Option.bind_some, gdO_some] at o2
    simp only [Option.bind_some, bne_self_eq_false, Bool.not_false, Bool.true_and, Bool.false_or]
    rw [phase j3 j4 hsame, k1]
    simp only [Option.bind_some]
    rw [k2]
    simp only [Option.bind_some, gdO_some]
    rw [o2]
    simp only [Option.bind_some, bne_self_eq_false, Bool.not_false, Bool.true_and, Bool.false_or]
    rw [phase o3 o4 hsame2]
    rcases idx_cases c'.f_Records (fun z => z.f_Acc == a) with ⟨i, e, hi, h1, _⟩ | ⟨e, h1⟩
    · simp only [beq_iff_eq] at h1
      rw [Close_at hf h hi h1] at hs
      rw [placeR_eq _ _ (by have := hf.2.1; omega), e]
      have hneg : decide (((i : Nat) : Int) < 0) = false := by simp
      simp only [Option.bind_some, hneg, Bool.false_eq_true, if_false, rdO_at hi]
      simp only [Option.some.injEq] at hs
      subst hs
      by_cases c1 : (c'.f_Records[i].f_To != 50000) = true
      · rw [if_pos c1, if_pos c1]
        simp only [Same_nil]
        rfl
      · rw [if_neg c1, if_neg c1]
        simp only [cashbookref04_Right, Option.bind_some, gdO_some, ge_iff_le]
        have hcond : ((!(decide (-50000 ≤ d) && decide (d ≤ 50000))) || decide (d < (bif !!(decide (-50000 ≤ d) && decide (d ≤ 50000)) then c'.f_Records[i] else default).f_From)) = ((!(decide (-50000 ≤ d) && decide (d ≤ 50000))) || decide (d < c'.f_Records[i].f_From)) := by
          cases (decide (-50000 ≤ d) && decide (d ≤ 50000)) <;> rfl
        rw [hcond]
        by_cases c2 : ((!(decide (-50000 ≤ d) && decide (d ≤ 50000))) || decide (d < c'.f_Records[i].f_From)) = true
        · rw [if_pos c2, if_pos c2]
          simp only [Same_nil]
          rfl
        · rw [if_neg c2, if_neg c2, refClose_eq hf hi]
          have := Same_refl ⟨c'.f_Customers, c'.f_Records.set i (setTo c'.f_Records[i] d)⟩ (by have := hf.1; simp only; omega) (by have := hf.2.1; simp; omega)
          simp [gdO, this]
    · rw [Close_none hf h (fun z hz e' => by have := List.any_eq_false.1 h1 z hz; simp [e'] at this)] at hs
      rw [placeR_eq _ _ (by have := hf.2.1; omega), e]
      simp only [Option.some.injEq] at hs
      subst hs
      simp only [Option.bind_some, Same_nil]
      rfl
  · rw [Right_not hf h, refRight_not hf h, Join_no hf h, Open_no hf h, Close_no hf h]
    simp only [Option.bind_some, alive, gdO_some, Same_nil]
    rfl
end Go.Av.G
