/- The plain law of ChartKeeps, by hand. -/
import Derived.Test.YtkcilagjhieapaaUcp
set_option linter.unusedVariables false
set_option linter.unusedSimpArgs false
set_option maxRecDepth 4000
namespace Go.Av.G
open Go Go.Av Go.Proofs

theorem clone_ok {α : Type} {n : Nat} {xs : List α} (h : xs.length * n ≤ 140737488355328) : slices_Clone n xs = some xs := by
  unfold slices_Clone; rw [if_pos h]
theorem insO_ok {α : Type} {n k : Nat} {xs : List α} {e : α} (hk : k ≤ xs.length) (h : (xs.length + 1) * n ≤ 140737488355328) : insO n xs (k : Int) e = some (xs.take k ++ e :: xs.drop k) := by
  unfold insO; rw [if_pos ⟨by omega, by omega, h⟩]; rfl

/-! ### maps -/

theorem mget_mset {κ ν : Type} [BEq κ] [LawfulBEq κ] [DecidableEq κ] (l : List (κ × ν)) (k k' : κ) (v : ν) : mget (mset l k v) k' = if k' = k then some v else mget l k' := by
  induction l with
  | nil =>
    simp only [mset, mget, List.find?_cons, List.find?_nil]
    by_cases e : k' = k
    · subst e; simp
    · have : (k' == k) = false := by simpa using e
      rw [this]; simp [e]
  | cons p l ih =>
    simp only [mset]
    by_cases h : (k == p.1) = true
    · rw [if_pos h]
      have hk : k = p.1 := by simpa using h
      simp only [mget, List.find?_cons]
      by_cases e : k' = k
      · subst e
        simp [h]
      · have : (k' == p.1) = false := by simp [← hk, e]
        simp [this, e]
    · rw [if_neg h]
      simp only [mget, List.find?_cons] at ih ⊢
      cases hp : (k' == p.1) with
      | true =>
        have e1 : k' = p.1 := by simpa using hp
        have : k' ≠ k := fun e => h (by simp [← e, e1])
        simp [this]
      | false => exact ih

theorem mset_len {κ ν : Type} [BEq κ] [LawfulBEq κ] (l : List (κ × ν)) (k : κ) (v : ν) (h : mget l k = none) : (mset l k v).length = l.length + 1 := by
  induction l with
  | nil => rfl
  | cons p l ih =>
    simp only [mget, List.find?_cons] at h ih
    cases hp : (k == p.1) with
    | true => rw [hp] at h; cases h
    | false =>
      rw [hp] at h
      simp only [mset, hp, Bool.false_eq_true, if_false, List.length_cons]
      rw [ih h]

/-! ### rows that rise -/

theorem rise_pair {α : Type} {key : α → Int} {l : List α} (h : Rise key l) : l.Pairwise (fun a b => key a < key b) := by
  rw [List.pairwise_iff_getElem]
  intro i j hi hj hij
  exact h.lt hj hij

theorem rise_ins {α : Type} {key : α → Int} {l : List α} {k : Nat} {x : α} (hr : Rise key l) (hk : k ≤ l.length) (hlo : ∀ i (hi : i < l.length), i < k → key l[i] < key x) (hup : ∀ i (hi : i < l.length), k ≤ i → key x < key l[i]) :
    Rise key (l.take k ++ x :: l.drop k) := by
  have hp := rise_pair hr
  have h1 : (l.take k ++ x :: l.drop k).Pairwise (fun a b => key a < key b) := by
    rw [List.pairwise_append, List.pairwise_cons]
    refine ⟨hp.sublist (List.take_sublist _ _), ⟨fun b hb => ?_, hp.sublist (List.drop_sublist _ _)⟩, fun a ha b hb => ?_⟩
    · obtain ⟨i, hi, rfl⟩ := List.getElem_of_mem hb
      rw [List.getElem_drop]
      simp at hi
      exact hup _ (by omega) (by omega)
    · obtain ⟨i, hi, rfl⟩ := List.getElem_of_mem ha
      rw [List.getElem_take]
      simp at hi
      have ha' := hlo i (by omega) (by omega)
      rcases List.mem_cons.1 hb with rfl | hb
      · exact ha'
      · obtain ⟨j, hj, rfl⟩ := List.getElem_of_mem hb
        rw [List.getElem_drop]
        simp at hj
        have := hup (k + j) (by omega) (by omega)
        omega
  intro i hi
  exact List.pairwise_iff_getElem.1 h1 i (i + 1) (by omega) hi (by omega)

theorem mem_ins {α : Type} {l : List α} {k : Nat} {x y : α} : y ∈ (l.take k ++ x :: l.drop k) ↔ y = x ∨ y ∈ l := by
  rw [List.mem_append, List.mem_cons]
  conv => rhs; rw [← List.take_append_drop k l, List.mem_append]
  constructor
  · rintro (h | h | h)
    · exact .inr (.inl h)
    · exact .inl h
    · exact .inr (.inr h)
  · rintro (h | h | h)
    · exact .inr (.inl h)
    · exact .inl h
    · exact .inr (.inr h)

theorem rise_set {α : Type} {key : α → Int} {l : List α} {i : Nat} {x : α} (hr : Rise key l) (hi : i < l.length) (hx : key x = key l[i]) : Rise key (l.set i x) := by
  intro j hj
  have hj' : j + 1 < l.length := by simpa using hj
  have := hr j hj'
  rw [List.getElem_set, List.getElem_set]
  by_cases e1 : i = j
  · subst e1
    rw [if_pos rfl, if_neg (by omega), hx]; exact this
  · rw [if_neg e1]
    by_cases e2 : i = j + 1
    · subst e2
      rw [if_pos rfl, hx]; exact this
    · rw [if_neg e2]; exact this

/-! ### charts that change -/

def setTo (r : T_api_Record) (d : Int) : T_api_Record := ⟨r.f_Acc, r.f_Kind, r.f_Cur, r.f_Customer, r.f_Product, r.f_Partition, r.f_From, d⟩

def hasC (c : T_api_Chart) (id : Int) : Prop := ∃ x ∈ c.f_Customers, x.f_ID = id
def hasR (c : T_api_Chart) (a : Int) : Prop := ∃ r ∈ c.f_Records, r.f_Acc = a

theorem badR_more {c c' : T_api_Chart} (h : ∀ x ∈ c.f_Customers, x ∈ c'.f_Customers) {r : T_api_Record} (hb : badR c r = false) : badR c' r = false := by
  simp only [badR, Bool.or_eq_false_iff, Bool.and_eq_false_iff, decide_eq_false_iff_not, Bool.not_eq_false'] at hb ⊢
  refine ⟨hb.1, hb.2.imp id (fun hb => ?_)⟩
  obtain ⟨x, hx, he⟩ := List.any_eq_true.1 hb
  exact List.any_eq_true.2 ⟨x, h x hx, he⟩

theorem Right_fits {c : T_api_Chart} (h : RightP c) : Fits c := by
  refine ⟨by have := h.1; omega, by have := h.2.1; omega, fun x hx => ?_⟩
  have := h.2.2.2.2.1 x hx
  simp only [okC, Bool.and_eq_true, decide_eq_true_eq] at this
  omega

theorem Join_cases {c : T_api_Chart} (h : RightP c) (x : T_api_Customer) :
    (okC x = false ∧ chart_Join c x = some (⟨[], []⟩, 1)) ∨ (okC x = true ∧ hasC c x.f_ID ∧ chart_Join c x = some (⟨[], []⟩, 26)) ∨ (okC x = true ∧ ¬ hasC c x.f_ID ∧ chart_Join c x = some (⟨[], []⟩, 6)) ∨
    (okC x = true ∧ ¬ hasC c x.f_ID ∧ ∃ c', chart_Join c x = some (c', 0) ∧ RightP c' ∧ c'.f_Records = c.f_Records ∧ ∀ y, y ∈ c'.f_Customers ↔ y = x ∨ y ∈ c.f_Customers) := by
  have hf := Right_fits h
  have hn := hf.1
  have hn2 := hf.2.1
  unfold chart_Join
  rw [Right_at hf h]
  simp only [Option.bind_some, Bool.not_true, isCustomer_eq, gdO, Bool.not_false, Bool.false_or]
  cases hx : okC x with
  | false => exact .inl ⟨rfl, rfl⟩
  | true =>
    simp only [Bool.not_true, Bool.false_eq_true, if_false]
    obtain ⟨k, b, ep, hk, q1, q2, hlo, hup⟩ := chart_place_Customer_int_spec c.f_Customers x.f_ID (by omega) h.2.2.1
    rw [ep]
    simp only [Option.bind_some]
    cases b with
    | true =>
      obtain ⟨hk', e'⟩ := q1 rfl
      exact .inr (.inl ⟨by simp, ⟨_, List.getElem_mem hk', e'⟩, rfl⟩)
    | false =>
      have hno : ¬ hasC c x.f_ID := fun ⟨y, hy, e⟩ => q2 rfl y hy e
      simp only [Bool.false_eq_true, if_false]
      by_cases hl : ((c.f_Customers.length : Int) == 100) = true
      · rw [if_pos hl]; exact .inr (.inr (.inl ⟨by simp, hno, rfl⟩))
      · rw [if_neg hl, clone_ok (by omega), clone_ok (by omega)]
        simp only [Option.bind_some]
        rw [insO_ok hk (by omega)]
        have hl : c.f_Customers.length ≠ 100 := by simpa using fun e => hl (by simp; omega)
        refine .inr (.inr (.inr ⟨by simp, hno, _, rfl, ?_, rfl, fun y => mem_ins⟩))
        have h1 := h.1
        refine ⟨by simp; omega, h.2.1, rise_ins h.2.2.1 hk hlo (hup rfl), h.2.2.2.1, fun y hy => ?_, fun r hr => badR_more (fun y hy => mem_ins.2 (.inr hy)) (h.2.2.2.2.2 r hr)⟩
        rcases mem_ins.1 hy with rfl | hy
        · exact hx
        · exact h.2.2.2.2.1 y hy

theorem Open_cases {c : T_api_Chart} (h : RightP c) (r : T_api_Record) :
    (chart_Open c r = some (⟨[], []⟩, 1)) ∨ (r.f_Customer > 0 ∧ ¬ hasC c r.f_Customer ∧ chart_Open c r = some (⟨[], []⟩, 8)) ∨ (hasR c r.f_Acc ∧ chart_Open c r = some (⟨[], []⟩, 26)) ∨ (chart_Open c r = some (⟨[], []⟩, 6)) ∨
    (¬ hasR c r.f_Acc ∧ (r.f_Customer > 0 → hasC c r.f_Customer) ∧ ∃ c', chart_Open c r = some (c', 0) ∧ RightP c' ∧ c'.f_Customers = c.f_Customers ∧ c'.f_Records.length = c.f_Records.length + 1 ∧ ∀ y, y ∈ c'.f_Records ↔ y = setTo r 50000 ∨ y ∈ c.f_Records) := by
  have hf := Right_fits h
  have hn := hf.1
  have hn2 := hf.2.1
  unfold chart_Open
  rw [Right_at hf h]
  have hrec : chart_isRecord (⟨r.f_Acc, r.f_Kind, r.f_Cur, r.f_Customer, r.f_Product, r.f_Partition, r.f_From, 50000⟩ : T_api_Record) = some (okR (setTo r 50000)) := by rw [isRecord_eq]; rfl
  simp only [Option.bind_some, Bool.not_true, hrec, gdO, Bool.not_false, Bool.false_or]
  cases hx : okR (setTo r 50000) with
  | false => exact .inl rfl
  | true =>
    simp only [Bool.not_true, Bool.false_eq_true, if_false]
    obtain ⟨kc, bc, ec, hkc, c1, c2, _, _⟩ := chart_place_Customer_int_spec c.f_Customers r.f_Customer (by omega) h.2.2.1
    obtain ⟨k, b, ep, hk, q1, q2, hlo, hup⟩ := chart_place_Record_Account_spec c.f_Records r.f_Acc (by omega) h.2.2.2.1
    have hcany := place_any c1 c2
    rw [ec, ep]
    simp only [Option.bind_some]
    cases hb : (decide (r.f_Customer > 0) && !bc) with
    | true =>
      obtain ⟨p1, p2⟩ : r.f_Customer > 0 ∧ bc = false := by simpa using hb
      subst p2
      exact .inr (.inl ⟨p1, fun ⟨y, hy, e⟩ => c2 rfl y hy e, rfl⟩)
    | false =>
      have hcu : r.f_Customer > 0 → hasC c r.f_Customer := fun hp => by
        cases bc with
        | true => obtain ⟨hk', e'⟩ := c1 rfl; exact ⟨_, List.getElem_mem hk', e'⟩
        | false => simp [hp] at hb
      simp only [Bool.false_eq_true, if_false]
      cases b with
      | true =>
        obtain ⟨hk', e'⟩ := q1 rfl
        exact .inr (.inr (.inl ⟨⟨_, List.getElem_mem hk', e'⟩, rfl⟩))
      | false =>
        have hno : ¬ hasR c r.f_Acc := fun ⟨y, hy, e⟩ => q2 rfl y hy e
        simp only [Bool.false_eq_true, if_false]
        by_cases hl : ((c.f_Records.length : Int) == 200) = true
        · rw [if_pos hl]; exact .inr (.inr (.inr (.inl rfl)))
        · rw [if_neg hl, clone_ok (by omega), clone_ok (by omega)]
          simp only [Option.bind_some]
          rw [insO_ok hk (by omega)]
          have hl : c.f_Records.length ≠ 200 := by simpa using fun e => hl (by simp; omega)
          refine .inr (.inr (.inr (.inr ⟨hno, hcu, _, rfl, ?_, rfl, by simp; omega, fun y => mem_ins⟩)))
          have h1 := h.2.1
          refine ⟨h.1, by simp; omega, h.2.2.1, rise_ins (x := setTo r 50000) h.2.2.2.1 hk hlo (hup rfl), h.2.2.2.2.1, fun y hy => ?_⟩
          rcases mem_ins.1 hy with rfl | hy
          · show badR _ (setTo r 50000) = false
            simp only [badR, hx, Bool.not_true, Bool.false_or, Bool.and_eq_false_iff, decide_eq_false_iff_not, Bool.not_eq_false']
            by_cases hp : 0 < r.f_Customer
            · right
              obtain ⟨x, hx, e⟩ := hcu hp
              exact List.any_eq_true.2 ⟨x, hx, by simpa [setTo] using e⟩
            · exact .inl hp
          · exact h.2.2.2.2.2 y hy

theorem okR_setTo {r : T_api_Record} {d : Int} (h : okR r = true) (h1 : -50000 ≤ d) (h2 : d ≤ 50000) (h3 : r.f_From ≤ d) : okR (setTo r d) = true := by
  have h := of_decide_eq_true h
  refine decide_eq_true ?_
  obtain ⟨a1, a2, a3, a4, a5, a6, a7, a8, a9, a10, a11, a12, a13, a14, a15, a16⟩ := h
  exact ⟨a1, a2, a3, a4, a5, a6, a7, a8, a9, a10, a11, a12, a13, a14, h3, h2⟩

theorem Close_cases {c : T_api_Chart} (h : RightP c) (a d : Int) :
    (¬ hasR c a ∧ chart_Close c a d = some (⟨[], []⟩, 8)) ∨ ∃ i, ∃ hi : i < c.f_Records.length, c.f_Records[i].f_Acc = a ∧
      ((c.f_Records[i].f_To ≠ 50000 ∧ chart_Close c a d = some (⟨[], []⟩, 16)) ∨ (chart_Close c a d = some (⟨[], []⟩, 11)) ∨
        (c.f_Records[i].f_To = 50000 ∧ c.f_Records[i].f_From ≤ d ∧ chart_Close c a d = some (⟨c.f_Customers, c.f_Records.set i (setTo c.f_Records[i] d)⟩, 0) ∧ RightP ⟨c.f_Customers, c.f_Records.set i (setTo c.f_Records[i] d)⟩)) := by
  have hf := Right_fits h
  have hn := hf.1
  have hn2 := hf.2.1
  unfold chart_Close
  by_cases hr : hasR c a
  · obtain ⟨r, hr, he⟩ := hr
    obtain ⟨i, hi, rfl⟩ := List.getElem_of_mem hr
    refine .inr ⟨i, hi, he, ?_⟩
    rw [Find_at hf h hi he]
    simp only [Option.bind_some, bne_self_eq_false, Bool.false_eq_true, if_false, date_Right, ge_iff_le]
    by_cases c1 : (c.f_Records[i].f_To != 50000) = true
    · rw [if_pos c1]
      exact .inl ⟨by simpa using c1, rfl⟩
    · rw [if_neg c1]
      by_cases c2 : ((!(decide (-50000 ≤ d) && decide (d ≤ 50000))) || decide (d < c.f_Records[i].f_From)) = true
      · rw [if_pos c2]; exact .inr (.inl rfl)
      · rw [if_neg c2, placeR_at hf.2.1 h.2.2.2.1 hi he]
        simp only [Option.bind_some]
        rw [clone_ok (by omega), clone_ok (by omega)]
        simp only [Option.bind_some, rdO_at hi]
        simp only [Bool.or_eq_true, Bool.not_eq_true', Bool.and_eq_false_iff, decide_eq_false_iff_not, decide_eq_true_eq] at c2
        have c1 : c.f_Records[i].f_To = 50000 := by simpa using c1
        refine .inr (.inr ⟨c1, by omega, rfl, h.1, by simpa using h.2.1, h.2.2.1, rise_set h.2.2.2.1 hi rfl, h.2.2.2.2.1, fun y hy => ?_⟩)
        have hbi := h.2.2.2.2.2 _ (List.getElem_mem hi)
        rcases List.mem_or_eq_of_mem_set hy with hy | rfl
        · exact h.2.2.2.2.2 y hy
        · simp only [badR, Bool.or_eq_false_iff, Bool.not_eq_false'] at hbi ⊢
          exact ⟨okR_setTo hbi.1 (by omega) (by omega) (by omega), hbi.2⟩
  · rw [Find_none hf h (fun x hx e => hr ⟨x, hx, e⟩)]
    exact .inl ⟨hr, rfl⟩

/-! ### what is kept -/

def zR : T_api_Record := ⟨0, 0, 0, 0, 0, 0, 0, 0⟩

/-- What the law's maps know of the chart. -/
structure Inv (c : T_api_Chart) (m7 : List (Int × T_api_Record)) (m8 m9 : List (Int × Int)) : Prop where
  right : RightP c
  joined : ∀ id, (hasC c id → (mget m9 id).getD 0 = 1) ∧ (¬ hasC c id → (mget m9 id).getD 0 = 0)
  len : m7.length = c.f_Records.length
  opened : ∀ a, (mget m7 a).isSome = true ↔ hasR c a
  kept : ∀ r ∈ c.f_Records, ∃ w, mget m7 r.f_Acc = some w ∧ w.f_To = 50000 ∧ r = setTo w ((mget m8 r.f_Acc).getD 50000)
  ended : ∀ a d, mget m8 a = some d → d ≠ 50000 ∧ hasR c a

theorem inv0 : Inv ⟨[], []⟩ [] [] [] :=
  ⟨right_nil, fun id => ⟨fun ⟨x, hx, _⟩ => by simp at hx, fun _ => rfl⟩, rfl, fun a => ⟨fun h => by simp [mget] at h, fun ⟨x, hx, _⟩ => by simp at hx⟩, fun r hr => by simp at hr, fun a d h => by simp [mget] at h⟩

theorem okX (id : Int) : okC ⟨id, [120], 0⟩ = true ↔ 1 ≤ id ∧ id ≤ 999 := by
  simp [okC]

section
variable {c : T_api_Chart} {m7 : List (Int × T_api_Record)} {m8 m9 : List (Int × Int)}

theorem keep_join (h : Inv c m7 m8 m9) (id : Int) : ∃ c' m9', ((chart_Join c (⟨id, [120], 0⟩ : T_api_Customer)).bind fun x12 =>
          (some (!((x12.2 == 26) == (decide (((mget m9 id).getD (0 : Int)) > 0))))).bind fun c13 =>
          (some (x12.2 == 1)).bind fun c14 =>
          (some (c14 && (decide (id ≥ 1)))).bind fun c15 =>
          if (c13 || (c15 && (decide (id ≤ 999)))) = true then
            some (.inr (.inr (.inr false)))
          else
            if (x12.2 == 0) = true then
              some (.inl (x12.1, m7, m8, (mset m9 id (IntKind.wrap .i64 (((mget m9 id).getD (0 : Int)) + 1)))))
            else
              some (.inl (c, m7, m8, m9)) : Option ((T_api_Chart × (List (Int × T_api_Record)) × (List (Int × Int)) × (List (Int × Int))) ⊕ ((Int × T_api_Chart × (List (Int × T_api_Record)) × (List (Int × Int)) × (List (Int × Int))) ⊕ ((T_api_Chart × (List (Int × T_api_Record)) × (List (Int × Int))) ⊕ Bool)))) =
      some (.inl (c', m7, m8, m9')) ∧ Inv c' m7 m8 m9' := by
  obtain ⟨j1, j2⟩ := h.joined id
  rcases Join_cases h.right ⟨id, [120], 0⟩ with ⟨h1, e⟩ | ⟨h1, h2, e⟩ | ⟨h1, h2, e⟩ | ⟨h1, h2, c', e, r1, r2, r3⟩
  · have hno : ¬ hasC c id := fun ⟨x, hx, he⟩ => by
      have := h.right.2.2.2.2.1 x hx
      simp only [okC, Bool.and_eq_true, decide_eq_true_eq] at this
      rw [(okX id).2 (by omega)] at h1; cases h1
    have hid : ¬ (1 ≤ id ∧ id ≤ 999) := fun hh => by rw [(okX id).2 hh] at h1; cases h1
    rw [e, j2 hno]
    simp only [Option.bind_some]
    refine ⟨c, m9, ?_, h⟩
    rw [if_neg (by simp; omega), if_neg (by decide)]
  · rw [e, j1 h2]
    simp only [Option.bind_some]
    exact ⟨c, m9, rfl, h⟩
  · rw [e, j2 h2]
    simp only [Option.bind_some]
    exact ⟨c, m9, rfl, h⟩
  · rw [e, j2 h2]
    simp only [Option.bind_some]
    have hc : ∀ id', hasC c' id' ↔ id' = id ∨ hasC c id' := by
      intro id'
      constructor
      · rintro ⟨y, hy, he⟩
        rcases (r3 y).1 hy with rfl | hy
        · exact .inl he.symm
        · exact .inr ⟨y, hy, he⟩
      · rintro (rfl | ⟨y, hy, he⟩)
        · exact ⟨_, (r3 _).2 (.inl rfl), rfl⟩
        · exact ⟨y, (r3 y).2 (.inr hy), he⟩
    have hR : ∀ a, hasR c' a ↔ hasR c a := fun a => by unfold hasR; rw [r2]
    refine ⟨c', _, rfl, r1, fun id' => ?_, by rw [r2]; exact h.len, fun a => by rw [hR]; exact h.opened a, fun r hr => h.kept r (by rw [← r2]; exact hr), fun a d hd => by rw [hR]; exact h.ended a d hd⟩
    rw [mget_mset, hc]
    by_cases he : id' = id
    · subst he
      rw [if_pos rfl]
      exact ⟨fun _ => rfl, fun hn => absurd (Or.inl rfl) hn⟩
    · rw [if_neg he]
      obtain ⟨q1, q2⟩ := h.joined id'
      exact ⟨fun hh => q1 (hh.resolve_left he), fun hh => q2 (fun h' => hh (.inr h'))⟩

theorem keep_open (h : Inv c m7 m8 m9) (r : T_api_Record) : ∃ c' m7', ((chart_Open c (setTo r 50000)).bind fun x22 =>
            (some (x22.2 == 26)).bind fun c23 =>
            (some (c23 && (!((mget m7 r.f_Acc).isSome)))).bind fun c24 =>
            (some (x22.2 == 0)).bind fun c25 =>
            (some ((mget m7 r.f_Acc).isSome)).bind fun c26 =>
            (some (decide (r.f_Customer > 0))).bind fun c27 =>
            (some (c24 || (c25 && (c26 || (c27 && (((mget m9 r.f_Customer).getD (0 : Int)) == 0)))))).bind fun c28 =>
            (some (x22.2 == 8)).bind fun c29 =>
            (some (r.f_Customer == 0)).bind fun c30 =>
            if (c28 || (c29 && (c30 || (decide (((mget m9 r.f_Customer).getD (0 : Int)) > 0))))) = true then
              some (.inr (.inr (.inr false)))
            else
              if (x22.2 == 0) = true then
                some (.inl (x22.1, (mset m7 r.f_Acc (setTo r 50000)), m8, m9))
              else
                some (.inl (c, m7, m8, m9)) : Option ((T_api_Chart × (List (Int × T_api_Record)) × (List (Int × Int)) × (List (Int × Int))) ⊕ ((Int × T_api_Chart × (List (Int × T_api_Record)) × (List (Int × Int)) × (List (Int × Int))) ⊕ ((T_api_Chart × (List (Int × T_api_Record)) × (List (Int × Int))) ⊕ Bool)))) =
      some (.inl (c', m7', m8, m9)) ∧ Inv c' m7' m8 m9 := by
  obtain ⟨j1, j2⟩ := h.joined r.f_Customer
  have ho := h.opened r.f_Acc
  rcases Open_cases h.right (setTo r 50000) with e | ⟨p1, p2, e⟩ | ⟨p1, e⟩ | e | ⟨p1, p2, c', e, r1, r2, r3, r4⟩
  · rw [e]
    simp only [Option.bind_some]
    exact ⟨c, m7, by simp, h⟩
  · rw [e]
    simp only [Option.bind_some]
    refine ⟨c, m7, ?_, h⟩
    have p1 : r.f_Customer > 0 := p1
    rw [j2 p2]
    have : (r.f_Customer == 0) = false := by simp; omega
    simp [this]
  · rw [e]
    simp only [Option.bind_some]
    refine ⟨c, m7, ?_, h⟩
    rw [ho.2 p1]
    simp
  · rw [e]
    simp only [Option.bind_some]
    exact ⟨c, m7, by simp, h⟩
  · rw [e]
    simp only [Option.bind_some]
    have hno : ¬ hasR c r.f_Acc := p1
    have hnone : mget m7 r.f_Acc = none := by
      cases hm : mget m7 r.f_Acc with
      | none => rfl
      | some w => exact absurd (ho.1 (by rw [hm]; rfl)) hno
    have hcond : (decide (r.f_Customer > 0) && ((mget m9 r.f_Customer).getD (0 : Int) == 0)) = false := by
      by_cases hp : r.f_Customer > 0
      · rw [j1 (p2 hp)]; simp
      · simp [hp]
    have hR : ∀ a, hasR c' a ↔ a = r.f_Acc ∨ hasR c a := by
      intro a
      constructor
      · rintro ⟨y, hy, he⟩
        rcases (r4 y).1 hy with rfl | hy
        · exact .inl he.symm
        · exact .inr ⟨y, hy, he⟩
      · rintro (rfl | ⟨y, hy, he⟩)
        · exact ⟨_, (r4 _).2 (.inl rfl), rfl⟩
        · exact ⟨y, (r4 y).2 (.inr hy), he⟩
    refine ⟨c', mset m7 r.f_Acc (setTo r 50000), ?_, r1, fun id => ?_, ?_, fun a => ?_, fun y hy => ?_, fun a d hd => ?_⟩
    · rw [hnone]
      simp only [Option.isSome_none, Bool.false_or, hcond]
      rfl
    · unfold hasC at *
      rw [r2]; exact h.joined id
    · rw [mset_len _ _ _ hnone, h.len, r3]
    · rw [mget_mset, hR]
      by_cases he : a = r.f_Acc
      · simp [he]
      · simp [he, h.opened a]
    · rw [mget_mset]
      rcases (r4 y).1 hy with rfl | hy'
      · refine ⟨setTo r 50000, if_pos rfl, rfl, ?_⟩
        have : mget m8 (setTo (setTo r 50000) 50000).f_Acc = none := by
          cases hm : mget m8 (setTo (setTo r 50000) 50000).f_Acc with
          | none => rfl
          | some d => exact absurd (h.ended _ _ hm).2 hno
        rw [this]; rfl
      · rw [if_neg (fun he => hno ⟨y, hy', he⟩)]
        exact h.kept y hy'
    · obtain ⟨q1, q2⟩ := h.ended a d hd
      exact ⟨q1, (hR a).2 (.inr q2)⟩

theorem keep_close (h : Inv c m7 m8 m9) (a d : Int) : ∃ c' m8', ((chart_Close c a d).bind fun x16 =>
            (some (!((x16.2 == 8) == (!((mget m7 a).isSome))))).bind fun c17 =>
            (some (x16.2 == 16)).bind fun c18 =>
            (some (c17 || (c18 && (!((mget m8 a).isSome))))).bind fun c19 =>
            (some (x16.2 == 0)).bind fun c20 =>
            (some ((mget m8 a).isSome)).bind fun c21 =>
            if (c19 || (c20 && (c21 || (decide (d < (((mget m7 a).getD ((⟨0, 0, 0, 0, 0, 0, 0, 0⟩ : T_api_Record) : T_api_Record)).f_From)))))) = true then
              some (.inr (.inr (.inr false)))
            else
              if (x16.2 == 0) = true then
                if (d != 50000) = true then
                  some (.inl (x16.1, m7, (mset m8 a d), m9))
                else
                  some (.inl (x16.1, m7, m8, m9))
              else
                some (.inl (c, m7, m8, m9)) : Option ((T_api_Chart × (List (Int × T_api_Record)) × (List (Int × Int)) × (List (Int × Int))) ⊕ ((Int × T_api_Chart × (List (Int × T_api_Record)) × (List (Int × Int)) × (List (Int × Int))) ⊕ ((T_api_Chart × (List (Int × T_api_Record)) × (List (Int × Int))) ⊕ Bool)))) =
      some (.inl (c', m7, m8', m9)) ∧ Inv c' m7 m8' m9 := by
  have ho := h.opened a
  rcases Close_cases h.right a d with ⟨p1, e⟩ | ⟨i, hi, he, hcase⟩
  · rw [e]
    have : (mget m7 a).isSome = false := by
      cases hm : (mget m7 a).isSome with
      | false => rfl
      | true => exact absurd (ho.1 hm) p1
    simp only [Option.bind_some, this]
    exact ⟨c, m8, by simp, h⟩
  · have hsome : (mget m7 a).isSome = true := ho.2 ⟨_, List.getElem_mem hi, he⟩
    obtain ⟨w, w1, w2, w3⟩ := h.kept _ (List.getElem_mem hi)
    rw [he] at w1 w3
    have hTo : c.f_Records[i].f_To = (mget m8 a).getD 50000 := by rw [w3]; rfl
    have hFr : c.f_Records[i].f_From = w.f_From := by rw [w3]; rfl
    rcases hcase with ⟨q1, e⟩ | e | ⟨q1, q2, e, r1⟩
    · rw [e]
      have : (mget m8 a).isSome = true := by
        cases hm : mget m8 a with
        | some d => rfl
        | none => rw [hm] at hTo; exact absurd hTo q1
      simp only [Option.bind_some, hsome, this]
      exact ⟨c, m8, by simp, h⟩
    · rw [e]
      simp only [Option.bind_some, hsome]
      exact ⟨c, m8, by simp, h⟩
    · rw [e]
      have hn8 : mget m8 a = none := by
        cases hm : mget m8 a with
        | none => rfl
        | some d' =>
          rw [hm] at hTo
          have := (h.ended _ _ hm).1
          simp at hTo
          omega
      have hlt : decide (d < w.f_From) = false := by simp; omega
      simp only [Option.bind_some, hsome, hn8, w1, Option.getD_some, hlt, Option.isSome_none]
      have hR : ∀ a', hasR ⟨c.f_Customers, c.f_Records.set i (setTo c.f_Records[i] d)⟩ a' ↔ hasR c a' := by
        intro a'
        constructor
        · rintro ⟨y, hy, hya⟩
          rcases List.mem_or_eq_of_mem_set hy with hy | rfl
          · exact ⟨y, hy, hya⟩
          · exact ⟨_, List.getElem_mem hi, hya⟩
        · rintro ⟨y, hy, hya⟩
          obtain ⟨j, hj, rfl⟩ := List.getElem_of_mem hy
          by_cases hij : i = j
          · subst hij
            exact ⟨_, List.mem_set hi _, hya⟩
          · refine ⟨c.f_Records[j], ?_, hya⟩
            have : (c.f_Records.set i (setTo c.f_Records[i] d))[j]? = some c.f_Records[j] := by
              rw [List.getElem?_set_ne hij, List.getElem?_eq_getElem hj]
            exact List.mem_of_getElem? this
      have hcs : ∀ y ∈ c.f_Records.set i (setTo c.f_Records[i] d), y = setTo c.f_Records[i] d ∨ (y ∈ c.f_Records ∧ y.f_Acc ≠ a) := by
        intro y hy
        obtain ⟨j, hj, rfl⟩ := List.getElem_of_mem hy
        rw [List.getElem_set]
        by_cases hij : i = j
        · rw [if_pos hij]; exact .inl rfl
        · rw [if_neg hij]
          have hj' : j < c.f_Records.length := by simpa using hj
          exact .inr ⟨List.getElem_mem hj', fun e' => hij (h.right.2.2.2.1.inj hi hj' (by omega))⟩
      by_cases hd : d = 50000
      · subst hd
        refine ⟨_, m8, rfl, r1, fun id => h.joined id, by rw [h.len]; simp, fun a' => by rw [hR]; exact h.opened a', fun y hy => ?_, fun a' d' hd' => by rw [hR]; exact h.ended a' d' hd'⟩
        rcases hcs y hy with rfl | ⟨hy, _⟩
        · refine ⟨w, ?_, w2, ?_⟩
          · show mget m7 c.f_Records[i].f_Acc = some w
            rw [he]; exact w1
          · show setTo c.f_Records[i] 50000 = setTo w ((mget m8 c.f_Records[i].f_Acc).getD 50000)
            rw [he, hn8, w3]
            rfl
        · exact h.kept y hy
      · have hd' : (d != 50000) = true := by simpa using hd
        simp only [hd', if_true]
        refine ⟨_, mset m8 a d, rfl, r1, fun id => h.joined id, by rw [h.len]; simp, fun a' => by rw [hR]; exact h.opened a', fun y hy => ?_, fun a' d' hd' => ?_⟩
        · rw [mget_mset]
          rcases hcs y hy with rfl | ⟨hy, hya⟩
          · refine ⟨w, ?_, w2, ?_⟩
            · show mget m7 c.f_Records[i].f_Acc = some w
              rw [he]; exact w1
            · rw [if_pos (show (setTo c.f_Records[i] d).f_Acc = a from he), w3]
              rfl
          · rw [if_neg hya]
            exact h.kept y hy
        · rw [hR]
          rw [mget_mset] at hd'
          by_cases ha : a' = a
          · subst ha
            rw [if_pos rfl] at hd'
            cases hd'
            exact ⟨hd, ⟨_, List.getElem_mem hi, he⟩⟩
          · rw [if_neg ha] at hd'
            exact h.ended a' d' hd'
end

/-! ### the law -/

theorem loop_bind {S O β : Type} {f : S → Option (S ⊕ O)} {s : S} {K : O → Option β} {b : β} {R : O → Prop} (h : ∃ o, loopO f s = some o ∧ R o) (hk : ∀ o, R o → K o = some b) : ((loopO f s).bind K) = some b := by
  obtain ⟨o, h1, h2⟩ := h
  rw [h1]; exact hk o h2

theorem chartKeeps_plain (steps : List T_cashbooklaw18_Step) (day : Int) (hs : steps.length ≤ maxLen ∧ ∀ x ∈ steps, x.wf) (hd : inR .i32 day) : cashbooklaw18_ChartKeeps steps day = some true := by
  unfold cashbooklaw18_ChartKeeps
  have h1 := slO_cap steps 60
  rw [show ((60 : Nat) : Int) = 60 from rfl] at h1
  rw [h1]
  simp only [Option.bind_some]
  have hl : (steps.take 60).length ≤ 60 := by simp; omega
  generalize steps.take 60 = l at hl ⊢
  refine loop_bind (R := fun o => ∃ c m7 m8 m9, o = (.inl (c, m7, m8) : (T_api_Chart × (List (Int × T_api_Record)) × (List (Int × Int))) ⊕ Bool) ∧ Inv c m7 m8 m9) ?step ?rest
  case rest =>
    rintro o ⟨c, m7, m8, m9, rfl, h⟩
    simp only
    have hlen : ((c.f_Records.length : Int) != (m7.length : Int)) = false := by rw [h.len]; simp
    rw [hlen]
    simp only [Bool.false_eq_true, if_false]
    have hf := Right_fits h.right
    have hn2 := hf.2.1
    rw [loopL_any (l := c.f_Records) (fun _ => false) (o := (Sum.inr false : Unit ⊕ Bool)) (e := Sum.inl ()) (by omega)]
    · have : (c.f_Records.any fun _ => false) = false := by induction c.f_Records <;> simp_all
      simp only [this, Bool.false_eq_true, if_false, Option.bind_some, alive]
    · intro i hi
      obtain ⟨w, w1, w2, w3⟩ := h.kept _ (List.getElem_mem hi)
      simp only [decide_eq_true_eq]
      rw [if_pos (by omega), rdO_at hi]
      simp only [Option.bind_some]
      rw [Find_at hf h.right hi rfl, Is_at hf h.right hi rfl]
      have hto : ((if ((mget m8 c.f_Records[i].f_Acc).isSome) = true then
            some ((mget m8 c.f_Records[i].f_Acc).getD (0 : Int))
          else
            some (((mget m7 c.f_Records[i].f_Acc).getD ((⟨0, 0, 0, 0, 0, 0, 0, 0⟩ : T_api_Record) : T_api_Record)).f_To)) : Option Int) = some ((mget m8 c.f_Records[i].f_Acc).getD 50000) := by
        cases hm : mget m8 c.f_Records[i].f_Acc with
        | some d => rfl
        | none => rw [w1]; simp [w2]
      rw [hto, w1]
      have hw : (⟨w.f_Acc, w.f_Kind, w.f_Cur, w.f_Customer, w.f_Product, w.f_Partition, w.f_From, (mget m8 c.f_Records[i].f_Acc).getD 50000⟩ : T_api_Record) = c.f_Records[i] := w3.symm
      simp only [Option.bind_some, Option.getD_some, hw, sameR, Option.isSome_some, bne_self_eq_false, Bool.not_true, Bool.or_self, Bool.false_eq_true, if_false]
      by_cases hday : (decide (-50000 ≤ day) && decide (day ≤ 50000)) = true
      · rw [if_pos hday]
        simp
      · rw [if_neg hday]
        simp
    · intro i hi
      simp only [decide_eq_true_eq]
      rw [if_neg (by omega)]
  case step =>
    refine loopO_rule (I := fun (s : Int × T_api_Chart × (List (Int × T_api_Record)) × (List (Int × Int)) × (List (Int × Int))) => ∃ n : Nat, s.1 = (n : Int) ∧ n ≤ l.length ∧ Inv s.2.1 s.2.2.1 s.2.2.2.1 s.2.2.2.2) (m := fun s => l.length - s.1.toNat) _ ?_ (0, ⟨[], []⟩, [], [], []) ⟨0, rfl, Nat.zero_le _, inv0⟩
    rintro ⟨i, c, m7, m8, m9⟩ ⟨n, hi, hn, h⟩
    simp only at hi h
    subst hi
    by_cases hlt : n < l.length
    · left
      have hdec : decide ((n : Int) < (l.length : Int)) = true := by simpa using hlt
      have fin : ∀ (c' : T_api_Chart) (m7' : List (Int × T_api_Record)) (m8' m9' : List (Int × Int)), Inv c' m7' m8' m9' → ((chart_Right c').bind fun x35 =>
        if (!x35) = true then
          some (.inr (.inr false))
        else
          some (.inl (IntKind.wrap .i64 ((n : Int) + 1), c', m7', m8', m9')) : Option ((Int × T_api_Chart × (List (Int × T_api_Record)) × (List (Int × Int)) × (List (Int × Int))) ⊕ ((T_api_Chart × (List (Int × T_api_Record)) × (List (Int × Int))) ⊕ Bool))) = some (.inl (((n + 1 : Nat) : Int), c', m7', m8', m9')) := by
        intro c' m7' m8' m9' h'
        rw [Right_at (Right_fits h'.right) h'.right]
        simp only [Option.bind_some, Bool.not_true, Bool.false_eq_true, if_false]
        rw [wrap64 (by omega) (by omega)]
        rfl
      by_cases c0 : ((Int.tmod (IntKind.wrap .i64 ((Int.tmod l[n].f_What 4) + 4)) 4) == 0) = true
      · obtain ⟨c', m9', e, h'⟩ := keep_join h l[n].f_ID
        refine ⟨(((n + 1 : Nat) : Int), c', m7, m8, m9'), ?_, ⟨n + 1, rfl, by omega, h'⟩, by simp; omega⟩
        dsimp only
        simp only [Option.bind_some] at e
        rw [if_pos hdec, rdO_at hlt, Option.bind_some, if_pos c0, e, Option.bind_some]
        exact fin _ _ _ _ h'
      · by_cases c3 : ((Int.tmod (IntKind.wrap .i64 ((Int.tmod l[n].f_What 4) + 4)) 4) == 3) = true
        · obtain ⟨c', m8', e, h'⟩ := keep_close h l[n].f_Rec.f_Acc l[n].f_Day
          refine ⟨(((n + 1 : Nat) : Int), c', m7, m8', m9), ?_, ⟨n + 1, rfl, by omega, h'⟩, by simp; omega⟩
          dsimp only
          simp only [Option.bind_some] at e
          rw [if_pos hdec, rdO_at hlt, Option.bind_some, if_neg c0, if_pos c3, e, Option.bind_some]
          exact fin _ _ _ _ h'
        · obtain ⟨c', m7', e, h'⟩ := keep_open h l[n].f_Rec
          unfold setTo at e
          refine ⟨(((n + 1 : Nat) : Int), c', m7', m8, m9), ?_, ⟨n + 1, rfl, by omega, h'⟩, by simp; omega⟩
          dsimp only
          simp only [Option.bind_some] at e
          rw [if_pos hdec, rdO_at hlt, Option.bind_some, if_neg c0, if_neg c3, e, Option.bind_some]
          exact fin _ _ _ _ h'
    · right
      refine ⟨_, ?_, c, m7, m8, m9, rfl, h⟩
      simp only [decide_eq_true_eq]
      rw [if_neg (by omega)]
end Go.Av.G
