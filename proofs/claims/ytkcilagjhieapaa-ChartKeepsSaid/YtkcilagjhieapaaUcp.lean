/- Plain laws of the charts' functions: what the program's text computes, by hand. -/
import Derived.Test.YtkcilagjhieapaaUdd
import Derived.Test.YtkcilagjhieapaaLaw
set_option linter.unusedVariables false
set_option linter.unusedSimpArgs false
set_option maxRecDepth 4000
namespace Go.Av.G
open Go Go.Av Go.Proofs

theorem gdO_some {α : Type} (g : Bool) (a d : α) : gdO g (some a) d = some (bif g then a else d) := by cases g <;> rfl

theorem gdO_and (g a : Bool) : gdO g (some a) (default : Bool) = some (g && a) := by cases g <;> rfl

/-! ### customers -/

def okC (x : T_api_Customer) : Bool := decide (1 ≤ x.f_ID ∧ x.f_ID ≤ 999 ∧ 1 ≤ x.f_Name.length ∧ x.f_Name.length ≤ 32 ∧ 0 ≤ x.f_Kind ∧ x.f_Kind ≤ 3) && !(x.f_Name.any fun b => decide (b.toNat < 32) || decide (126 < b.toNat))

theorem contains_eq (s : List UInt8) : strings_ContainsFunc chart_isCustomer_1 s = some (s.any fun b => decide (b.toNat < 32) || decide (126 < b.toNat)) := by
  rw [strings_ContainsFunc_eq (fun x => decide (x < 32) || decide (126 < x)) (by
    intro x
    simp only [chart_isCustomer_1, Option.bind_some, Option.some.injEq]
    rw [Bool.eq_iff_iff]
    simp
    omega)]
  rw [runes_bytes (p := fun x => decide (x < 32) || decide (126 < x)) (by intro x hx; simp; omega)]

theorem isCustomer_eq (x : T_api_Customer) : chart_isCustomer x = some (okC x) := by
  simp only [chart_isCustomer, chart_in_int, contains_eq, gdO_some, Option.bind_some, Option.some.injEq, okC, cond_eq_ite]
  rw [Bool.eq_iff_iff]
  generalize (x.f_Name.any fun b => decide (b.toNat < 32) || decide (126 < b.toNat)) = B
  cases B <;> simp <;> omega

/-! ### records -/

def okR (r : T_api_Record) : Bool := decide (1 ≤ r.f_Acc ∧ r.f_Acc ≤ 999 ∧ 0 ≤ r.f_Kind ∧ r.f_Kind ≤ 3 ∧ 0 ≤ r.f_Cur ∧ r.f_Cur ≤ 3 ∧ 0 ≤ r.f_Customer ∧ r.f_Customer ≤ 999 ∧ 0 ≤ r.f_Product ∧ r.f_Product ≤ 20 ∧ 0 ≤ r.f_Partition ∧ r.f_Partition ≤ 3 ∧
  (r.f_Kind < 2 ∨ r.f_Customer = 0 ∧ r.f_Product = 0) ∧ -50000 ≤ r.f_From ∧ r.f_From ≤ r.f_To ∧ r.f_To ≤ 50000)

theorem isRecord_eq (r : T_api_Record) : chart_isRecord r = some (okR r) := by
  simp only [chart_isRecord, chart_in_int, chart_in_Account, chart_in_Currency, date_Right, gdO_and, Option.bind_some, okR]
  split
  · rename_i h
    simp only [Option.some.injEq]
    rw [Bool.eq_iff_iff]
    simp at h ⊢
    omega
  · rename_i h
    split
    · rename_i h2
      simp only [Option.some.injEq]
      rw [Bool.eq_iff_iff]
      simp at h h2 ⊢
      omega
    · rename_i h2
      simp only [Option.some.injEq]
      rw [Bool.eq_iff_iff]
      simp at h h2 ⊢
      omega

/-! ### order -/

theorem chart_rises_Customer_int_spec (l : List T_api_Customer) (hn : l.length < 4611686018427387904) : ∃ b, chart_rises_Customer_int l = some b ∧ (b = true ↔ Rise (·.f_ID) l) := by
  unfold chart_rises_Customer_int
  rw [loopI_any1 (n := l.length) (o := (Sum.inr false : Unit ⊕ Bool)) (e := Sum.inl ()) (q := descends (fun x : T_api_Customer => x.f_ID) l) hn]
  · have h := any_rise (key := fun x : T_api_Customer => x.f_ID) (l := l)
    generalize hB : (List.range' 1 (l.length - 1)).any (descends (fun x : T_api_Customer => x.f_ID) l) = B at h ⊢
    cases B with
    | true => exact ⟨false, rfl, by simpa using h⟩
    | false => exact ⟨true, rfl, by simpa using h⟩
  · intro i h0 h
    have e1 : IntKind.wrap .i64 ((i : Int) - 1) = ((i - 1 : Nat) : Int) := by rw [wrap64 (by omega) (by omega)]; omega
    simp only [decide_eq_true_eq, e1]
    rw [if_pos (by omega), rdO_at (by omega), rdO_at h, descends_at h0 h]
    simp only [chart_idOf, Option.bind_some, decide_eq_true_eq]
    split <;> rfl
  · intro i h
    simp only [decide_eq_true_eq]
    rw [if_neg (by omega)]

theorem chart_rises_Record_Account_spec (l : List T_api_Record) (hn : l.length < 4611686018427387904) : ∃ b, chart_rises_Record_Account l = some b ∧ (b = true ↔ Rise (·.f_Acc) l) := by
  unfold chart_rises_Record_Account
  rw [loopI_any1 (n := l.length) (o := (Sum.inr false : Unit ⊕ Bool)) (e := Sum.inl ()) (q := descends (fun x : T_api_Record => x.f_Acc) l) hn]
  · have h := any_rise (key := fun x : T_api_Record => x.f_Acc) (l := l)
    generalize hB : (List.range' 1 (l.length - 1)).any (descends (fun x : T_api_Record => x.f_Acc) l) = B at h ⊢
    cases B with
    | true => exact ⟨false, rfl, by simpa using h⟩
    | false => exact ⟨true, rfl, by simpa using h⟩
  · intro i h0 h
    have e1 : IntKind.wrap .i64 ((i : Int) - 1) = ((i - 1 : Nat) : Int) := by rw [wrap64 (by omega) (by omega)]; omega
    simp only [decide_eq_true_eq, e1]
    rw [if_pos (by omega), rdO_at (by omega), rdO_at h, descends_at h0 h]
    simp only [chart_accOf, Option.bind_some, decide_eq_true_eq]
    split <;> rfl
  · intro i h
    simp only [decide_eq_true_eq]
    rw [if_neg (by omega)]

theorem chart_place_Customer_int_1_eq (x : T_api_Customer) (n : Int) : chart_place_Customer_int_1 x n = some (if x.f_ID < n then -1 else if x.f_ID > n then 1 else 0) := by
  simp only [chart_place_Customer_int_1, chart_idOf, cmp_Compare_int, cmp_isNaN_int, Option.bind_some, bne_self_eq_false, Bool.false_eq_true, if_false, decide_eq_true_eq]
  split
  · rfl
  · split <;> rfl

theorem chart_place_Customer_int_spec (l : List T_api_Customer) (n : Int) (hn : l.length < 4611686018427387904) (hr : Rise (·.f_ID) l) :
    ∃ (k : Nat) (b : Bool), chart_place_Customer_int l n = some ((k : Int), b) ∧ k ≤ l.length ∧ (b = true → ∃ h : k < l.length, l[k].f_ID = n) ∧ (b = false → ∀ x ∈ l, x.f_ID ≠ n) ∧ (∀ i (hi : i < l.length), i < k → l[i].f_ID < n) ∧ (b = false → ∀ i (hi : i < l.length), k ≤ i → n < l[i].f_ID) := by
  have hbs : ∃ (k : Nat) (b : Bool), slices_BinarySearchFunc_Customer_Customer_int l n = some ((k : Int), b) ∧ k ≤ l.length ∧ (b = true → ∃ h : k < l.length, l[k].f_ID = n) ∧ (b = false → ∀ x ∈ l, x.f_ID ≠ n) ∧ (∀ i (hi : i < l.length), i < k → l[i].f_ID < n) ∧ (b = false → ∀ i (hi : i < l.length), k ≤ i → n < l[i].f_ID) := by
    unfold slices_BinarySearchFunc_Customer_Customer_int
    obtain ⟨k, hk, hl, h1, h2⟩ := bsearch (n := l.length) (lt := fun i => (l[i]?).any fun x => decide (x.f_ID < n)) (f := fun (qj3 : Int × Int) => match qj3 with
    | (i4, j5) => (
      if (decide (i4 < j5)) = true then
        (rdO l (IntKind.wrap .i64 (Int.fdiv (IntKind.wrap .u64 (IntKind.wrap .i64 (i4 + j5))) 2))).bind fun x7 =>
        (chart_place_Customer_int_1 x7 n).bind fun x8 =>
        if (decide (x8 < 0)) = true then
          some (.inl (IntKind.wrap .i64 ((IntKind.wrap .i64 (Int.fdiv (IntKind.wrap .u64 (IntKind.wrap .i64 (i4 + j5))) 2)) + 1), j5))
        else
          some (.inl (i4, IntKind.wrap .i64 (Int.fdiv (IntKind.wrap .u64 (IntKind.wrap .i64 (i4 + j5))) 2)))
      else
        some (.inr i4))) hn
      (by
        intro i j hij hj
        simp only [decide_eq_true_eq, half hij (show j < 4611686018427387904 by omega)]
        have hm : (i + j) / 2 < l.length := by omega
        rw [if_pos (by omega), rdO_at hm]
        simp only [Option.bind_some, chart_place_Customer_int_1_eq]
        rw [List.getElem?_eq_getElem hm]
        have e : IntKind.wrap .i64 ((((i + j) / 2 : Nat) : Int) + 1) = (((i + j) / 2 + 1 : Nat) : Int) := by rw [wrap64 (by omega) (by omega)]; rfl
        by_cases h : (l[(i + j) / 2]).f_ID < n
        · simp [h]
          exact e
        · simp [h]
          split <;> simp)
      (by
        intro i
        simp only [decide_eq_true_eq]
        rw [if_neg (by omega)])
    have hless : ∀ i (hi : i < l.length), i < k → l[i].f_ID < n := by
      intro i hi hik
      have h3 := h1 (by omega)
      rw [List.getElem?_eq_getElem (by omega)] at h3
      simp only [Option.any_some, decide_eq_true_eq] at h3
      by_cases he : i = k - 1
      · subst he; exact h3
      · have := hr.lt (j := k - 1) (i := i) (by omega) (by omega)
        try simp only at this
        omega
    rw [hl]
    simp only [Option.bind_some]
    by_cases hkl : k < l.length
    · have h4 := h2 hkl
      rw [List.getElem?_eq_getElem hkl] at h4
      simp only [Option.any_some, decide_eq_false_iff_not] at h4
      have hdec : decide ((k : Int) < (l.length : Int)) = true := by simpa using hkl
      rw [hdec]
      simp only [gdO, rdO_at hkl, Option.bind_some, chart_place_Customer_int_1_eq, Bool.true_and]
      by_cases he : l[k].f_ID = n
      · refine ⟨k, true, ?_, hk, fun _ => ⟨hkl, he⟩, (fun h => by cases h), hless, (fun h => by cases h)⟩
        simp [he]
      · have hup : ∀ i (hi : i < l.length), k ≤ i → n < l[i].f_ID := fun i hi hik => by
          have : ¬ l[k].f_ID < n := h4
          have h5 : l[k].f_ID > n := by omega
          by_cases hik' : i = k
          · subst hik'; omega
          · have := hr.lt (j := i) (i := k) hi (by omega)
            try simp only at this
            omega
        refine ⟨k, false, ?_, hk, (fun h => by cases h), (fun _ x hx hxn => ?_), hless, fun _ => hup⟩
        · have : ¬ l[k].f_ID < n := h4
          have h5 : l[k].f_ID > n := by omega
          simp [this, h5]
        · obtain ⟨i, hi, rfl⟩ := List.getElem_of_mem hx
          by_cases hik : i < k
          · have := hless i hi hik; omega
          · by_cases hik' : i = k
            · subst hik'; exact he hxn
            · have := hr.lt (j := i) (i := k) hi (by omega)
              try simp only at this
              omega
    · have hdec : decide ((k : Int) < (l.length : Int)) = false := by simpa using hkl
      rw [hdec]
      simp only [gdO, Option.bind_some, Bool.false_and]
      refine ⟨k, false, rfl, hk, (fun h => by cases h), (fun _ x hx hxn => ?_), hless, fun _ i hi hik => by omega⟩
      obtain ⟨i, hi, rfl⟩ := List.getElem_of_mem hx
      have := hless i hi (by omega)
      omega
  obtain ⟨k, b, h1, hk, h2, h3, h4, h5⟩ := hbs
  refine ⟨k, b, ?_, hk, h2, h3, h4, h5⟩
  unfold chart_place_Customer_int
  rw [h1]
  rfl

theorem chart_place_Record_Account_1_eq (x : T_api_Record) (n : Int) : chart_place_Record_Account_1 x n = some (if x.f_Acc < n then -1 else if x.f_Acc > n then 1 else 0) := by
  simp only [chart_place_Record_Account_1, chart_accOf, cmp_Compare_Account, cmp_isNaN_Account, Option.bind_some, bne_self_eq_false, Bool.false_eq_true, if_false, decide_eq_true_eq]
  split
  · rfl
  · split <;> rfl

theorem chart_place_Record_Account_spec (l : List T_api_Record) (n : Int) (hn : l.length < 4611686018427387904) (hr : Rise (·.f_Acc) l) :
    ∃ (k : Nat) (b : Bool), chart_place_Record_Account l n = some ((k : Int), b) ∧ k ≤ l.length ∧ (b = true → ∃ h : k < l.length, l[k].f_Acc = n) ∧ (b = false → ∀ x ∈ l, x.f_Acc ≠ n) ∧ (∀ i (hi : i < l.length), i < k → l[i].f_Acc < n) ∧ (b = false → ∀ i (hi : i < l.length), k ≤ i → n < l[i].f_Acc) := by
  have hbs : ∃ (k : Nat) (b : Bool), slices_BinarySearchFunc_Record_Record_Account l n = some ((k : Int), b) ∧ k ≤ l.length ∧ (b = true → ∃ h : k < l.length, l[k].f_Acc = n) ∧ (b = false → ∀ x ∈ l, x.f_Acc ≠ n) ∧ (∀ i (hi : i < l.length), i < k → l[i].f_Acc < n) ∧ (b = false → ∀ i (hi : i < l.length), k ≤ i → n < l[i].f_Acc) := by
    unfold slices_BinarySearchFunc_Record_Record_Account
    obtain ⟨k, hk, hl, h1, h2⟩ := bsearch (n := l.length) (lt := fun i => (l[i]?).any fun x => decide (x.f_Acc < n)) (f := fun (qj3 : Int × Int) => match qj3 with
    | (i4, j5) => (
      if (decide (i4 < j5)) = true then
        (rdO l (IntKind.wrap .i64 (Int.fdiv (IntKind.wrap .u64 (IntKind.wrap .i64 (i4 + j5))) 2))).bind fun x7 =>
        (chart_place_Record_Account_1 x7 n).bind fun x8 =>
        if (decide (x8 < 0)) = true then
          some (.inl (IntKind.wrap .i64 ((IntKind.wrap .i64 (Int.fdiv (IntKind.wrap .u64 (IntKind.wrap .i64 (i4 + j5))) 2)) + 1), j5))
        else
          some (.inl (i4, IntKind.wrap .i64 (Int.fdiv (IntKind.wrap .u64 (IntKind.wrap .i64 (i4 + j5))) 2)))
      else
        some (.inr i4))) hn
      (by
        intro i j hij hj
        simp only [decide_eq_true_eq, half hij (show j < 4611686018427387904 by omega)]
        have hm : (i + j) / 2 < l.length := by omega
        rw [if_pos (by omega), rdO_at hm]
        simp only [Option.bind_some, chart_place_Record_Account_1_eq]
        rw [List.getElem?_eq_getElem hm]
        have e : IntKind.wrap .i64 ((((i + j) / 2 : Nat) : Int) + 1) = (((i + j) / 2 + 1 : Nat) : Int) := by rw [wrap64 (by omega) (by omega)]; rfl
        by_cases h : (l[(i + j) / 2]).f_Acc < n
        · simp [h]
          exact e
        · simp [h]
          split <;> simp)
      (by
        intro i
        simp only [decide_eq_true_eq]
        rw [if_neg (by omega)])
    have hless : ∀ i (hi : i < l.length), i < k → l[i].f_Acc < n := by
      intro i hi hik
      have h3 := h1 (by omega)
      rw [List.getElem?_eq_getElem (by omega)] at h3
      simp only [Option.any_some, decide_eq_true_eq] at h3
      by_cases he : i = k - 1
      · subst he; exact h3
      · have := hr.lt (j := k - 1) (i := i) (by omega) (by omega)
        try simp only at this
        omega
    rw [hl]
    simp only [Option.bind_some]
    by_cases hkl : k < l.length
    · have h4 := h2 hkl
      rw [List.getElem?_eq_getElem hkl] at h4
      simp only [Option.any_some, decide_eq_false_iff_not] at h4
      have hdec : decide ((k : Int) < (l.length : Int)) = true := by simpa using hkl
      rw [hdec]
      simp only [gdO, rdO_at hkl, Option.bind_some, chart_place_Record_Account_1_eq, Bool.true_and]
      by_cases he : l[k].f_Acc = n
      · refine ⟨k, true, ?_, hk, fun _ => ⟨hkl, he⟩, (fun h => by cases h), hless, (fun h => by cases h)⟩
        simp [he]
      · have hup : ∀ i (hi : i < l.length), k ≤ i → n < l[i].f_Acc := fun i hi hik => by
          have : ¬ l[k].f_Acc < n := h4
          have h5 : l[k].f_Acc > n := by omega
          by_cases hik' : i = k
          · subst hik'; omega
          · have := hr.lt (j := i) (i := k) hi (by omega)
            try simp only at this
            omega
        refine ⟨k, false, ?_, hk, (fun h => by cases h), (fun _ x hx hxn => ?_), hless, fun _ => hup⟩
        · have : ¬ l[k].f_Acc < n := h4
          have h5 : l[k].f_Acc > n := by omega
          simp [this, h5]
        · obtain ⟨i, hi, rfl⟩ := List.getElem_of_mem hx
          by_cases hik : i < k
          · have := hless i hi hik; omega
          · by_cases hik' : i = k
            · subst hik'; exact he hxn
            · have := hr.lt (j := i) (i := k) hi (by omega)
              try simp only at this
              omega
    · have hdec : decide ((k : Int) < (l.length : Int)) = false := by simpa using hkl
      rw [hdec]
      simp only [gdO, Option.bind_some, Bool.false_and]
      refine ⟨k, false, rfl, hk, (fun h => by cases h), (fun _ x hx hxn => ?_), hless, fun _ i hi hik => by omega⟩
      obtain ⟨i, hi, rfl⟩ := List.getElem_of_mem hx
      have := hless i hi (by omega)
      omega
  obtain ⟨k, b, h1, hk, h2, h3, h4, h5⟩ := hbs
  refine ⟨k, b, ?_, hk, h2, h3, h4, h5⟩
  unfold chart_place_Record_Account
  rw [h1]
  rfl

/-! ### which charts may be -/

theorem fst_neg {α : Type} (l : List α) (p : α → Bool) : decide ((match fstIdx l p with | some i => ((i : Nat) : Int) | none => -1) ≥ 0) = l.any p := by
  cases h : fstIdx l p with
  | some i =>
    obtain ⟨hi, hp, _⟩ := fstIdx_some h
    have : l.any p = true := List.any_eq_true.2 ⟨_, List.getElem_mem hi, hp⟩
    simp [this]
  | none =>
    have : l.any p = false := by simpa using fstIdx_none h
    simp [this]

theorem idxC_eq (l : List T_api_Customer) (hn : l.length < 4611686018427387904) : slices_ContainsFunc_Customer_Customer l = some (l.any fun x => !okC x) := by
  unfold slices_ContainsFunc_Customer_Customer slices_IndexFunc_Customer_Customer
  rw [loopL_idx (l := l) (fun x => !okC x) (o := fun i => (Sum.inr (i : Int) : Unit ⊕ Int)) (e := Sum.inl ()) hn]
  · rw [← fst_neg]
    cases fstIdx l fun x => !okC x <;> rfl
  · intro i h
    simp only [decide_eq_true_eq]
    rw [if_pos (by omega), rdO_at h]
    simp only [Option.bind_some, chart_Right_1, isCustomer_eq]
    split <;> rfl
  · intro i h
    simp only [decide_eq_true_eq]
    rw [if_neg (by omega)]

def badR (c : T_api_Chart) (r : T_api_Record) : Bool := !okR r || (decide (0 < r.f_Customer) && !(c.f_Customers.any fun x => x.f_ID == r.f_Customer))

theorem place_any {l : List T_api_Customer} {n : Int} {k : Nat} {b : Bool} (h1 : b = true → ∃ h : k < l.length, l[k].f_ID = n) (h2 : b = false → ∀ x ∈ l, x.f_ID ≠ n) : (l.any fun x => x.f_ID == n) = b := by
  cases b with
  | true =>
    obtain ⟨h, he⟩ := h1 rfl
    exact List.any_eq_true.2 ⟨_, List.getElem_mem h, by simpa using he⟩
  | false => simpa using h2 rfl

theorem right2_eq (c : T_api_Chart) (r : T_api_Record) (hn : c.f_Customers.length < 4611686018427387904) (hr : Rise (·.f_ID) c.f_Customers) : chart_Right_2 r c = some (badR c r) := by
  obtain ⟨k, b, h1, _, h2, h3, _, _⟩ := chart_place_Customer_int_spec c.f_Customers r.f_Customer hn hr
  unfold chart_Right_2 badR
  rw [h1, place_any h2 h3]
  simp only [Option.bind_some, isRecord_eq, gt_iff_lt]

theorem idxR_eq (c : T_api_Chart) (hc : c.f_Customers.length < 4611686018427387904) (hn : c.f_Records.length < 4611686018427387904) (hr : Rise (·.f_ID) c.f_Customers) : slices_ContainsFunc_Record_Record c.f_Records c = some (c.f_Records.any (badR c)) := by
  unfold slices_ContainsFunc_Record_Record slices_IndexFunc_Record_Record
  rw [loopL_idx (l := c.f_Records) (badR c) (o := fun i => (Sum.inr (i : Int) : Unit ⊕ Int)) (e := Sum.inl ()) hn]
  · rw [← fst_neg]
    cases fstIdx c.f_Records (badR c) <;> rfl
  · intro i h
    simp only [decide_eq_true_eq]
    rw [if_pos (by omega), rdO_at h]
    simp only [Option.bind_some, right2_eq c _ hc hr]
    split <;> rfl
  · intro i h
    simp only [decide_eq_true_eq]
    rw [if_neg (by omega)]

def RightP (c : T_api_Chart) : Prop := c.f_Customers.length ≤ 100 ∧ c.f_Records.length ≤ 200 ∧ Rise (·.f_ID) c.f_Customers ∧ Rise (·.f_Acc) c.f_Records ∧ (∀ x ∈ c.f_Customers, okC x = true) ∧ ∀ r ∈ c.f_Records, badR c r = false

theorem Right_spec (c : T_api_Chart) (hc : c.f_Customers.length < 4611686018427387904) (hn : c.f_Records.length < 4611686018427387904) : ∃ b, chart_Right c = some b ∧ (b = true ↔ RightP c) := by
  unfold chart_Right
  obtain ⟨b1, e1, h1⟩ := chart_rises_Customer_int_spec c.f_Customers hc
  obtain ⟨b2, e2, h2⟩ := chart_rises_Record_Account_spec c.f_Records hn
  simp only [e1, e2, gdO_and, Option.bind_some, idxC_eq _ hc]
  by_cases hA : c.f_Customers.length ≤ 100 ∧ c.f_Records.length ≤ 200 ∧ b1 = true ∧ b2 = true
  · obtain ⟨a1, a2, rfl, rfl⟩ := hA
    have d1 : decide ((c.f_Customers.length : Int) > 100) = false := by simp; omega
    have d2 : decide ((c.f_Records.length : Int) > 200) = false := by simp; omega
    have hr1 := h1.1 rfl
    have hr2 := h2.1 rfl
    simp only [d1, d2, Bool.or_false, Bool.not_false, Bool.true_and, Bool.not_true, Bool.false_eq_true, if_false, idxR_eq c hc hn hr1, Option.bind_some]
    cases hB : c.f_Customers.any fun x => !okC x with
    | true =>
      refine ⟨false, rfl, by simp, fun h => ?_⟩
      obtain ⟨x, hx, hb⟩ := List.any_eq_true.1 hB
      have := h.2.2.2.2.1 x hx
      simp [this] at hb
    | false =>
      simp only [Bool.false_eq_true, if_false]
      refine ⟨_, rfl, ?_⟩
      have hC : ∀ x ∈ c.f_Customers, okC x = true := by simpa using hB
      unfold RightP
      simp only [a1, a2, hr1, hr2, true_and]
      simpa using fun _ => hC
  · refine ⟨false, ?_, by simp, fun h => absurd ⟨h.1, h.2.1, h1.2 h.2.2.1, h2.2 h.2.2.2.1⟩ hA⟩
    rw [if_pos]
    by_cases a1 : c.f_Customers.length ≤ 100
    · by_cases a2 : c.f_Records.length ≤ 200
      · cases b1 <;> cases b2 <;> simp_all
      · have : (c.f_Records.length : Int) > 200 := by omega
        simp [this]
    · have : (c.f_Customers.length : Int) > 100 := by omega
      simp [this]

/-! ### finding -/

def Fits (c : T_api_Chart) : Prop := c.f_Customers.length < 1000 ∧ c.f_Records.length < 1000 ∧ ∀ x ∈ c.f_Customers, x.f_Name.length < 1000

theorem Right_at {c : T_api_Chart} (hf : Fits c) (h : RightP c) : chart_Right c = some true := by
  obtain ⟨b, e, hb⟩ := Right_spec c (by have := hf.1; omega) (by have := hf.2.1; omega)
  rw [e, hb.2 h]

theorem Right_not {c : T_api_Chart} (hf : Fits c) (h : ¬ RightP c) : chart_Right c = some false := by
  obtain ⟨b, e, hb⟩ := Right_spec c (by have := hf.1; omega) (by have := hf.2.1; omega)
  cases b with
  | true => exact absurd (hb.1 rfl) h
  | false => exact e

theorem placeR_at {l : List T_api_Record} {a : Int} (hn : l.length < 1000) (hr : Rise (·.f_Acc) l) {i : Nat} (h : i < l.length) (he : l[i].f_Acc = a) : chart_place_Record_Account l a = some ((i : Int), true) := by
  obtain ⟨k, b, e, _, h1, h2, _, _⟩ := chart_place_Record_Account_spec l a (by omega) hr
  cases b with
  | false => exact absurd he (h2 rfl _ (List.getElem_mem h))
  | true =>
    obtain ⟨hk, he'⟩ := h1 rfl
    rw [e, hr.inj hk h (by omega)]

theorem placeR_none {l : List T_api_Record} {a : Int} (hn : l.length < 1000) (hr : Rise (·.f_Acc) l) (h : ∀ x ∈ l, x.f_Acc ≠ a) : ∃ k : Nat, k ≤ l.length ∧ chart_place_Record_Account l a = some ((k : Int), false) := by
  obtain ⟨k, b, e, hk, h1, h2, hlo, hup⟩ := chart_place_Record_Account_spec l a (by omega) hr
  cases b with
  | false => exact ⟨k, hk, e⟩
  | true =>
    obtain ⟨hk, he'⟩ := h1 rfl
    exact absurd he' (h _ (List.getElem_mem hk))

theorem placeC_at {l : List T_api_Customer} {a : Int} (hn : l.length < 1000) (hr : Rise (·.f_ID) l) {i : Nat} (h : i < l.length) (he : l[i].f_ID = a) : chart_place_Customer_int l a = some ((i : Int), true) := by
  obtain ⟨k, b, e, _, h1, h2, _, _⟩ := chart_place_Customer_int_spec l a (by omega) hr
  cases b with
  | false => exact absurd he (h2 rfl _ (List.getElem_mem h))
  | true =>
    obtain ⟨hk, he'⟩ := h1 rfl
    rw [e, hr.inj hk h (by omega)]

theorem placeC_none {l : List T_api_Customer} {a : Int} (hn : l.length < 1000) (hr : Rise (·.f_ID) l) (h : ∀ x ∈ l, x.f_ID ≠ a) : ∃ k : Nat, k ≤ l.length ∧ chart_place_Customer_int l a = some ((k : Int), false) := by
  obtain ⟨k, b, e, hk, h1, h2, hlo, hup⟩ := chart_place_Customer_int_spec l a (by omega) hr
  cases b with
  | false => exact ⟨k, hk, e⟩
  | true =>
    obtain ⟨hk, he'⟩ := h1 rfl
    exact absurd he' (h _ (List.getElem_mem hk))

theorem Find_bad {c : T_api_Chart} (hf : Fits c) (h : ¬ RightP c) (a : Int) : chart_Find c a = some (⟨0, 0, 0, 0, 0, 0, 0, 0⟩, 1) := by
  unfold chart_Find
  rw [Right_not hf h]
  rfl

theorem Find_none {c : T_api_Chart} (hf : Fits c) (h : RightP c) {a : Int} (hn : ∀ x ∈ c.f_Records, x.f_Acc ≠ a) : chart_Find c a = some (⟨0, 0, 0, 0, 0, 0, 0, 0⟩, 8) := by
  unfold chart_Find
  obtain ⟨k, _, e⟩ := placeR_none hf.2.1 h.2.2.2.1 hn
  rw [Right_at hf h, e]
  rfl

theorem Find_at {c : T_api_Chart} (hf : Fits c) (h : RightP c) {a : Int} {i : Nat} (hi : i < c.f_Records.length) (he : c.f_Records[i].f_Acc = a) : chart_Find c a = some (c.f_Records[i], 0) := by
  unfold chart_Find
  rw [Right_at hf h, placeR_at hf.2.1 h.2.2.2.1 hi he]
  simp only [Option.bind_some, rdO_at hi]
  rfl

/-! ### cuts -/

theorem slO_take {α : Type} {l : List α} {h : Int} (h0 : 0 ≤ h) (h1 : h ≤ l.length) : slO l 0 h = some (l.take h.toNat) := by
  unfold slO
  rw [if_pos ⟨by omega, h0, h1⟩]
  rfl

theorem slO_cap {α : Type} (l : List α) (m : Nat) : slO l 0 (if (m : Int) < (l.length : Int) then (m : Int) else (l.length : Int)) = some (l.take m) := by
  split
  · rw [slO_take (by omega) (by omega)]; simp
  · rw [slO_take (by omega) (by omega)]
    simp only [Int.toNat_natCast, Option.some.injEq]
    rw [List.take_of_length_le (Nat.le_refl _), List.take_of_length_le (by omega)]

/-! ### one that is opened and closed -/

def r5 (d : Int) : T_api_Record := ⟨5, 0, 0, 0, 0, 0, 10, d⟩

theorem right_nil : RightP ⟨[], []⟩ := by
  refine ⟨by simp, by simp, ?_, ?_, by simp, by simp⟩ <;> intro i h <;> simp at h

theorem right_one {d : Int} (h : badR ⟨[], [r5 d]⟩ (r5 d) = false) : RightP ⟨[], [r5 d]⟩ := by
  refine ⟨by simp, by simp, ?_, ?_, by simp, by simpa using h⟩ <;> intro i h <;> simp at h

theorem fits_nil : Fits ⟨[], []⟩ := ⟨by simp, by simp, by simp⟩
theorem fits_one (d : Int) : Fits ⟨[], [r5 d]⟩ := ⟨by simp, by simp, by simp⟩

theorem open_alive : chart_Open ⟨[], []⟩ ⟨5, 0, 0, 0, 0, 0, 10, 0⟩ = some (⟨[], [r5 50000]⟩, 0) := by
  unfold chart_Open
  obtain ⟨k1, hk1, e1⟩ := placeC_none (l := []) (a := 0) (by simp) (by intro i h; simp at h) (by simp)
  obtain ⟨k2, hk2, e2⟩ := placeR_none (l := []) (a := 5) (by simp) (by intro i h; simp at h) (by simp)
  obtain rfl : k2 = 0 := by simpa using hk2
  rw [Right_at fits_nil right_nil]
  simp only [Option.bind_some, isRecord_eq, e1, e2]
  rfl

theorem close_alive : chart_Close ⟨[], [r5 50000]⟩ 5 20 = some (⟨[], [r5 20]⟩, 0) := by
  unfold chart_Close
  have hr : RightP ⟨[], [r5 50000]⟩ := right_one (by decide)
  rw [Find_at (c := ⟨[], [r5 50000]⟩) (a := 5) (fits_one _) hr (i := 0) (by simp) rfl]
  simp only [Option.bind_some]
  rw [placeR_at (l := [r5 50000]) (a := 5) (i := 0) (by simp) hr.2.2.2.1 (by simp) rfl]
  rfl

theorem alive : cashbooklaw18_alive = some true := by
  unfold cashbooklaw18_alive
  rw [open_alive]
  simp only [Option.bind_some]
  rw [close_alive]
  have hr : RightP ⟨[], [r5 20]⟩ := right_one (by decide)
  have hfind := Find_at (c := ⟨[], [r5 20]⟩) (a := 5) (fits_one _) hr (i := 0) (by simp) rfl
  have e1 : chart_Is ⟨[], [r5 20]⟩ 5 20 = some (true, 0) := by
    unfold chart_Is
    rw [hfind]
    rfl
  have e2 : chart_Is ⟨[], [r5 20]⟩ 5 21 = some (false, 0) := by
    unfold chart_Is
    rw [hfind]
    rfl
  simp only [Option.bind_some, e1, e2]
  rfl

/-! ### the law -/

theorem sameR (x : T_api_Record) : T_api_Record.same x x = true := by rw [T_api_Record.same_iff]; simp
theorem sameC (x : T_api_Customer) : T_api_Customer.same x x = true := by rw [T_api_Customer.same_iff]; simp

theorem Is_none {c : T_api_Chart} (hf : Fits c) (h : RightP c) {a d : Int} (hn : ∀ x ∈ c.f_Records, x.f_Acc ≠ a) : chart_Is c a d = some (false, 8) := by
  unfold chart_Is
  rw [Find_none hf h hn]
  rfl

theorem Is_at {c : T_api_Chart} (hf : Fits c) (h : RightP c) {a d : Int} {i : Nat} (hi : i < c.f_Records.length) (he : c.f_Records[i].f_Acc = a) : chart_Is c a d = some (if (decide (-50000 ≤ d) && decide (d ≤ 50000)) = true then (decide (d ≥ c.f_Records[i].f_From) && decide (d ≤ c.f_Records[i].f_To), 0) else (false, 11)) := by
  unfold chart_Is
  rw [Find_at hf h hi he]
  simp only [Option.bind_some, date_Right, chart_in_Date, ge_iff_le]
  cases (decide (-50000 ≤ d) && decide (d ≤ 50000)) <;> rfl

end Go.Av.G
