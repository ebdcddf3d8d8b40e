/- Plain laws of holds: what the program's text computes, by hand. -/
import Derived.Test.YtkcilagjhieapaaUhd
import Derived.Test.YtkcilagjhieapaaLaw
set_option linter.unusedVariables false
set_option linter.unusedSimpArgs false
set_option maxRecDepth 4000
namespace Go.Av.G
open Go Go.Av Go.Proofs

theorem gdO_some {α : Type} (g : Bool) (a d : α) : gdO g (some a) d = some (bif g then a else d) := by cases g <;> rfl

theorem gdO_and (g a : Bool) : gdO g (some a) (default : Bool) = some (g && a) := by cases g <;> rfl

/-! ### a hold -/

def okH (h : T_api_Hold) : Bool := decide (1 ≤ h.f_ID ∧ h.f_ID ≤ 1000000 ∧ 1 ≤ h.f_Acc ∧ h.f_Acc ≤ 999 ∧ 0 ≤ h.f_Rank ∧ h.f_Rank ≤ 9 ∧ 0 ≤ h.f_Amount.f_Cur ∧ h.f_Amount.f_Cur < 4 ∧ 0 < h.f_Amount.f_Minor ∧ h.f_Amount.f_Minor ≤ 1000000000000000 ∧
  0 ≤ h.f_Taken ∧ h.f_Taken ≤ h.f_Amount.f_Minor ∧ -50000 ≤ h.f_Made ∧ h.f_Made ≤ h.f_Until ∧ h.f_Until ≤ 50000)

def okM (m : T_api_Money) : Bool := decide (0 ≤ m.f_Cur ∧ m.f_Cur < 4 ∧ -1000000000000000 ≤ m.f_Minor ∧ m.f_Minor ≤ 1000000000000000)

theorem moneyRight_eq (m : T_api_Money) : money_Right m = some (okM m) := by
  simp only [money_Right, money_is, Option.bind_some, Option.some.injEq, okM]
  rw [Bool.eq_iff_iff]
  simp
  omega

theorem right_eq (h : T_api_Hold) : hold_right h = some (okH h) := by
  simp only [hold_right, moneyRight_eq, date_Right, gdO_and, Option.bind_some, Option.some.injEq, okH, okM]
  rw [Bool.eq_iff_iff]
  simp
  omega

def liveH (h : T_api_Hold) (now : Int) : Bool := okH h && !h.f_Done && decide (h.f_Made ≤ now ∧ now ≤ h.f_Until)
def restH (h : T_api_Hold) (now : Int) : Int := if liveH h now = true then h.f_Amount.f_Minor - h.f_Taken else 0

theorem live_eq (h : T_api_Hold) (now : Int) : hold_Live h now = some (liveH h now) := by
  simp only [hold_Live, right_eq, Option.bind_some, Option.some.injEq, liveH]
  rw [Bool.eq_iff_iff]
  simp [and_assoc]

theorem okH_spec {h : T_api_Hold} (hk : okH h = true) : 1 ≤ h.f_ID ∧ h.f_ID ≤ 1000000 ∧ 1 ≤ h.f_Acc ∧ h.f_Acc ≤ 999 ∧ 0 ≤ h.f_Rank ∧ h.f_Rank ≤ 9 ∧ 0 ≤ h.f_Amount.f_Cur ∧ h.f_Amount.f_Cur < 4 ∧ 0 < h.f_Amount.f_Minor ∧ h.f_Amount.f_Minor ≤ 1000000000000000 ∧
  0 ≤ h.f_Taken ∧ h.f_Taken ≤ h.f_Amount.f_Minor ∧ -50000 ≤ h.f_Made ∧ h.f_Made ≤ h.f_Until ∧ h.f_Until ≤ 50000 := of_decide_eq_true hk

theorem live_ok {h : T_api_Hold} {now : Int} (hl : liveH h now = true) : okH h = true := by
  unfold liveH at hl
  simp only [Bool.and_eq_true] at hl
  exact hl.1.1

theorem restH_range (h : T_api_Hold) (now : Int) : 0 ≤ restH h now ∧ restH h now ≤ 1000000000000000 := by
  unfold restH
  split
  · rename_i hl
    have := okH_spec (live_ok hl)
    omega
  · omega

theorem rest_eq (h : T_api_Hold) (now : Int) : hold_Rest h now = some (restH h now) := by
  simp only [hold_Rest, live_eq, Option.bind_some]
  unfold restH
  cases hl : liveH h now with
  | false => rfl
  | true =>
    have := okH_spec (live_ok hl)
    simp only [Bool.not_true, Bool.false_eq_true, if_false, if_true]
    rw [wrap64 (by omega) (by omega)]

/-! ### a list -/

theorem fst_neg {α : Type} (l : List α) (p : α → Bool) : decide ((match fstIdx l p with | some i => ((i : Nat) : Int) | none => -1) ≥ 0) = l.any p := by
  cases h : fstIdx l p with
  | some i =>
    obtain ⟨hi, hp, _⟩ := fstIdx_some h
    have : l.any p = true := List.any_eq_true.2 ⟨_, List.getElem_mem hi, hp⟩
    simp [this]
  | none =>
    have : l.any p = false := by simpa using fstIdx_none h
    simp [this]


def badI (l : List T_api_Hold) : Bool := (List.range' 1 (l.length - 1)).any (descends (fun x : T_api_Hold => x.f_ID) l)
def chkH (l : List T_api_Hold) : Int := if (l.any fun x => !okH x) = true then 1 else if badI l = true then 20 else if 200 < l.length then 6 else 0
structure GoodL (l : List T_api_Hold) : Prop where
  ok : ∀ x ∈ l, okH x = true
  rise : Rise (fun x : T_api_Hold => x.f_ID) l
  few : l.length ≤ 200

theorem chkH_good {l : List T_api_Hold} : chkH l = 0 ↔ GoodL l := by
  have h := any_rise (key := fun x : T_api_Hold => x.f_ID) (l := l)
  unfold chkH badI
  constructor
  · intro hc
    split at hc
    · cases hc
    · rename_i h1
      split at hc
      · cases hc
      · rename_i h2
        split at hc
        · cases hc
        · rename_i h3
          refine ⟨by simpa using h1, Classical.byContradiction fun hr => h2 (h.2 hr), by omega⟩
  · intro hg
    rw [if_neg (by simpa using hg.ok), if_neg (fun hb => h.1 hb hg.rise), if_neg (by have := hg.few; omega)]

theorem contains_eq (l : List T_api_Hold) (hn : l.length < 4611686018427387904) : slices_ContainsFunc_Hold_Hold l = some (l.any fun x => !okH x) := by
  unfold slices_ContainsFunc_Hold_Hold slices_IndexFunc_Hold_Hold
  rw [loopL_idx (l := l) (fun x => !okH x) (o := fun i => (Sum.inr (i : Int) : Unit ⊕ Int)) (e := Sum.inl ()) hn]
  · rw [← fst_neg]
    cases fstIdx l fun x => !okH x <;> rfl
  · intro i h
    simp only [decide_eq_true_eq]
    rw [if_pos (by omega), rdO_at h]
    simp only [Option.bind_some, hold_Check_1, right_eq]
    split <;> rfl
  · intro i h
    simp only [decide_eq_true_eq]
    rw [if_neg (by omega)]

theorem check_eq (l : List T_api_Hold) (hn : l.length < 4611686018427387904) : hold_Check l = some (chkH l) := by
  unfold hold_Check
  rw [contains_eq l hn]
  simp only [Option.bind_some]
  unfold chkH
  split
  · rfl
  · rw [loopI_any1 (n := l.length) (o := (Sum.inr 20 : Unit ⊕ Int)) (e := Sum.inl ()) (q := descends (fun x : T_api_Hold => x.f_ID) l) hn]
    · unfold badI
      cases (List.range' 1 (l.length - 1)).any (descends (fun x : T_api_Hold => x.f_ID) l) with
      | true => rfl
      | false =>
        simp only [Bool.false_eq_true, if_false, Option.bind_some, decide_eq_true_eq]
        by_cases h : 200 < l.length
        · rw [if_pos h, if_pos (by omega)]
        · rw [if_neg h, if_neg (by omega)]
    · intro i h0 h
      have e1 : IntKind.wrap .i64 ((i : Int) - 1) = ((i - 1 : Nat) : Int) := by rw [wrap64 (by omega) (by omega)]; omega
      simp only [decide_eq_true_eq, e1]
      rw [if_pos (by omega), rdO_at (by omega), rdO_at h, descends_at h0 h]
      simp only [Option.bind_some, decide_eq_true_eq]
      split <;> rfl
    · intro i h
      simp only [decide_eq_true_eq]
      rw [if_neg (by omega)]

/-! ### places -/

theorem hold_place_1_eq (x : T_api_Hold) (n : Int) : hold_place_1 x n = some (if x.f_ID < n then -1 else if x.f_ID > n then 1 else 0) := by
  simp only [hold_place_1, cmp_Compare_int, cmp_isNaN_int, Option.bind_some, bne_self_eq_false, Bool.false_eq_true, if_false, decide_eq_true_eq]
  split
  · rfl
  · split <;> rfl

theorem hold_place_spec (l : List T_api_Hold) (n : Int) (hn : l.length < 4611686018427387904) (hr : Rise (·.f_ID) l) :
    ∃ (k : Nat) (b : Bool), hold_place l n = some ((k : Int), b) ∧ k ≤ l.length ∧ (b = true → ∃ h : k < l.length, l[k].f_ID = n) ∧ (b = false → ∀ x ∈ l, x.f_ID ≠ n) ∧ (∀ i (hi : i < l.length), i < k → l[i].f_ID < n) ∧ (b = false → ∀ i (hi : i < l.length), k ≤ i → n < l[i].f_ID) := by
  have hbs : ∃ (k : Nat) (b : Bool), slices_BinarySearchFunc_Hold_Hold_int l n = some ((k : Int), b) ∧ k ≤ l.length ∧ (b = true → ∃ h : k < l.length, l[k].f_ID = n) ∧ (b = false → ∀ x ∈ l, x.f_ID ≠ n) ∧ (∀ i (hi : i < l.length), i < k → l[i].f_ID < n) ∧ (b = false → ∀ i (hi : i < l.length), k ≤ i → n < l[i].f_ID) := by
    unfold slices_BinarySearchFunc_Hold_Hold_int
    obtain ⟨k, hk, hl, h1, h2⟩ := bsearch (n := l.length) (lt := fun i => (l[i]?).any fun x => decide (x.f_ID < n)) (f := fun (qj3 : Int × Int) => match qj3 with
    | (i4, j5) => (
      if (decide (i4 < j5)) = true then
        (rdO l (IntKind.wrap .i64 (Int.fdiv (IntKind.wrap .u64 (IntKind.wrap .i64 (i4 + j5))) 2))).bind fun x7 =>
        (hold_place_1 x7 n).bind fun x8 =>
        if (decide (x8 < 0)) = true then
          some (.inl (IntKind.wrap .i64 ((IntKind.wrap .i64 (Int.fdiv (IntKind.wrap .u64 (IntKind.wrap .i64 (i4 + j5))) 2)) + 1), j5))
        else
          some (.inl (i4, IntKind.wrap .i64 (Int.fdiv (IntKind.wrap .u64 (IntKind.wrap .i64 (i4 + j5))) 2)))
      else
        some (.inr i4))) hn
      (by
        intro i j hij hj
        simp only [decide_eq_true_eq, half hij (show j < 4611686018427387904 by omega)]
        have hm : (i + j) / 2 < l.length := by omega
        rw [if_pos (by omega), rdO_at hm]
        simp only [Option.bind_some, hold_place_1_eq]
        rw [List.getElem?_eq_getElem hm]
        have e : IntKind.wrap .i64 ((((i + j) / 2 : Nat) : Int) + 1) = (((i + j) / 2 + 1 : Nat) : Int) := by rw [wrap64 (by omega) (by omega)]; rfl
        by_cases h : (l[(i + j) / 2]).f_ID < n
        · simp [h]
          exact e
        · simp [h]
          split <;> simp)
      (by
        intro i
        simp only [decide_eq_true_eq]
        rw [if_neg (by omega)])
    have hless : ∀ i (hi : i < l.length), i < k → l[i].f_ID < n := by
      intro i hi hik
      have h3 := h1 (by omega)
      rw [List.getElem?_eq_getElem (by omega)] at h3
      simp only [Option.any_some, decide_eq_true_eq] at h3
      by_cases he : i = k - 1
      · subst he; exact h3
      · have := hr.lt (j := k - 1) (i := i) (by omega) (by omega)
        try simp only at this
        omega
    rw [hl]
    simp only [Option.bind_some]
    by_cases hkl : k < l.length
    · have h4 := h2 hkl
      rw [List.getElem?_eq_getElem hkl] at h4
      simp only [Option.any_some, decide_eq_false_iff_not] at h4
      have hdec : decide ((k : Int) < (l.length : Int)) = true := by simpa using hkl
      rw [hdec]
      simp only [gdO, rdO_at hkl, Option.bind_some, hold_place_1_eq, Bool.true_and]
      by_cases he : l[k].f_ID = n
      · refine ⟨k, true, ?_, hk, fun _ => ⟨hkl, he⟩, (fun h => by cases h), hless, (fun h => by cases h)⟩
        simp [he]
      · have hup : ∀ i (hi : i < l.length), k ≤ i → n < l[i].f_ID := fun i hi hik => by
          have : ¬ l[k].f_ID < n := h4
          have h5 : l[k].f_ID > n := by omega
          by_cases hik' : i = k
          · subst hik'; omega
          · have := hr.lt (j := i) (i := k) hi (by omega)
            try simp only at this
            omega
        refine ⟨k, false, ?_, hk, (fun h => by cases h), (fun _ x hx hxn => ?_), hless, fun _ => hup⟩
        · have : ¬ l[k].f_ID < n := h4
          have h5 : l[k].f_ID > n := by omega
          simp [this, h5]
        · obtain ⟨i, hi, rfl⟩ := List.getElem_of_mem hx
          by_cases hik : i < k
          · have := hless i hi hik; omega
          · by_cases hik' : i = k
            · subst hik'; exact he hxn
            · have := hr.lt (j := i) (i := k) hi (by omega)
              try simp only at this
              omega
    · have hdec : decide ((k : Int) < (l.length : Int)) = false := by simpa using hkl
      rw [hdec]
      simp only [gdO, Option.bind_some, Bool.false_and]
      refine ⟨k, false, rfl, hk, (fun h => by cases h), (fun _ x hx hxn => ?_), hless, fun _ i hi hik => by omega⟩
      obtain ⟨i, hi, rfl⟩ := List.getElem_of_mem hx
      have := hless i hi (by omega)
      omega
  obtain ⟨k, b, h1, hk, h2, h3, h4, h5⟩ := hbs
  refine ⟨k, b, ?_, hk, h2, h3, h4, h5⟩
  unfold hold_place
  rw [h1]
  rfl


theorem place_at {l : List T_api_Hold} {n : Int} (hg : GoodL l) {i : Nat} (h : i < l.length) (he : l[i].f_ID = n) : hold_place l n = some ((i : Int), true) := by
  obtain ⟨k, b, e, _, h1, h2, _, _⟩ := hold_place_spec l n (by have := hg.few; omega) hg.rise
  cases b with
  | false => exact absurd he (h2 rfl _ (List.getElem_mem h))
  | true =>
    obtain ⟨hk, he'⟩ := h1 rfl
    rw [e, hg.rise.inj hk h (by omega)]

theorem place_none {l : List T_api_Hold} {n : Int} (hg : GoodL l) (h : ∀ x ∈ l, x.f_ID ≠ n) : ∃ k : Nat, k ≤ l.length ∧ hold_place l n = some ((k : Int), false) ∧ (∀ i (hi : i < l.length), i < k → l[i].f_ID < n) ∧ (∀ i (hi : i < l.length), k ≤ i → n < l[i].f_ID) := by
  obtain ⟨k, b, e, hk, h1, h2, hlo, hup⟩ := hold_place_spec l n (by have := hg.few; omega) hg.rise
  cases b with
  | false => exact ⟨k, hk, e, hlo, hup rfl⟩
  | true =>
    obtain ⟨hk, he'⟩ := h1 rfl
    exact absurd he' (h _ (List.getElem_mem hk))

end Go.Av.G

namespace Go.Av.G
open Go Go.Av Go.Proofs

/-- A loop from state to state. -/
theorem loopG {S O : Type} {f : S → Option (S ⊕ O)} {n : Nat} (g : Nat → S) {o : O} (hin : ∀ k, k < n → f (g k) = some (.inl (g (k + 1)))) (hout : f (g n) = some (.inr o)) : loopO f (g 0) = some o := by
  have key : ∀ k, k ≤ n → loopO f (g 0) = loopO f (g k) := by
    intro k
    induction k with
    | zero => intro _; rfl
    | succ k ih => intro hk; rw [ih (by omega), loopO_on (hin k (by omega))]
  rw [key n (Nat.le_refl _), loopO_out hout]

theorem wrapS {k : Nat} (h : k < 4611686018427387904) : IntKind.wrap .i64 ((k : Int) + 1) = ((k + 1 : Nat) : Int) := by rw [wrap64 (by omega) (by omega)]; rfl

theorem clone_eq {l : List T_api_Hold} (h : l.length ≤ 1000) : slices_Clone 64 l = some l := by
  unfold slices_Clone
  rw [if_pos (by omega)]

theorem apO_eq {α : Type} {n : Nat} {xs ys : List α} (h : (xs.length + ys.length) * n ≤ 140737488355328) : apO n xs ys = some (xs ++ ys) := by
  unfold apO
  rw [if_pos h]

/-! ### one more -/

def insH (h : T_api_Hold) : List T_api_Hold → List T_api_Hold
  | [] => [h]
  | x :: t => if h.f_ID < x.f_ID then h :: x :: t else x :: insH h t

theorem insH_split {h : T_api_Hold} : ∀ {a b : List T_api_Hold}, (∀ x ∈ a, ¬ h.f_ID < x.f_ID) → (∀ x ∈ b, h.f_ID < x.f_ID) → insH h (a ++ b) = a ++ h :: b
  | [], [], _, _ => rfl
  | [], x :: t, _, hb => by
    show (if h.f_ID < x.f_ID then h :: x :: t else x :: insH h t) = h :: x :: t
    rw [if_pos (hb x (by simp))]
  | x :: t, b, ha, hb => by
    show (if h.f_ID < x.f_ID then h :: x :: (t ++ b) else x :: insH h (t ++ b)) = x :: (t ++ h :: b)
    rw [if_neg (ha x (by simp)), insH_split (fun y hy => ha y (by simp [hy])) hb]

theorem insH_length {h : T_api_Hold} : ∀ {l : List T_api_Hold}, (insH h l).length = l.length + 1
  | [] => rfl
  | x :: t => by
    show (if h.f_ID < x.f_ID then h :: x :: t else x :: insH h t).length = _
    split
    · simp
    · simp [insH_length (l := t)]

theorem any_id {l : List T_api_Hold} {n : Int} : (l.any fun x => x.f_ID == n) = false ↔ ∀ x ∈ l, x.f_ID ≠ n := by simp

theorem id_at {l : List T_api_Hold} {n : Int} (h : (l.any fun x => x.f_ID == n) = true) : ∃ (i : Nat) (hi : i < l.length), l[i].f_ID = n := by
  obtain ⟨x, hx, he⟩ := List.any_eq_true.1 h
  obtain ⟨i, hi, rfl⟩ := List.getElem_of_mem hx
  exact ⟨i, hi, by simpa using he⟩

def addH (l : List T_api_Hold) (h : T_api_Hold) : List T_api_Hold × Int :=
  if (!okH h || decide (0 < h.f_Taken) || h.f_Done) = true then ([], 1) else if (l.any fun x => x.f_ID == h.f_ID) = true then ([], 26) else if 200 ≤ l.length then ([], 6) else (insH h l, 0)

theorem add_bad {l : List T_api_Hold} (hn : l.length < 4611686018427387904) (hb : chkH l ≠ 0) (h : T_api_Hold) : hold_Add l h = some ([], chkH l) := by
  unfold hold_Add
  rw [check_eq l hn]
  simp only [Option.bind_some]
  rw [if_pos (by simpa using hb)]

theorem add_eq {l : List T_api_Hold} (hg : GoodL l) (h : T_api_Hold) : hold_Add l h = some (addH l h) := by
  have hf := hg.few
  unfold hold_Add addH
  rw [check_eq l (by omega), chkH_good.2 hg]
  simp only [Option.bind_some, bne_self_eq_false, Bool.false_eq_true, if_false, right_eq]
  cases ha : l.any fun x => x.f_ID == h.f_ID with
  | true =>
    obtain ⟨i, hi, he⟩ := id_at ha
    rw [place_at hg hi he]
    simp only [Option.bind_some, if_true, gt_iff_lt]
    split <;> rfl
  | false =>
    obtain ⟨k, hk, e, hlo, hup⟩ := place_none hg (any_id.1 ha)
    rw [e]
    simp only [Option.bind_some, Bool.false_eq_true, if_false, gt_iff_lt]
    split
    · rfl
    · by_cases h2 : 200 ≤ l.length
      · rw [if_pos (by rw [decide_eq_true_eq]; omega), if_pos h2]
      · rw [if_neg (by rw [decide_eq_true_eq]; omega), if_neg h2, clone_eq (by omega)]
        have hi : insO 64 l (k : Int) h = some (insH h l) := by
          unfold insO
          rw [if_pos ⟨by omega, by omega, by omega⟩]
          have e2 : insH h (l.take k ++ l.drop k) = l.take k ++ h :: l.drop k := insH_split (fun x hx => by
            obtain ⟨j, hj, rfl⟩ := List.getElem_of_mem hx
            simp only [List.length_take] at hj
            rw [List.getElem_take]
            have := hlo j (by omega) (by omega)
            omega) (fun x hx => by
            obtain ⟨j, hj, rfl⟩ := List.getElem_of_mem hx
            simp only [List.length_drop] at hj
            rw [List.getElem_drop]
            exact hup (k + j) (by omega) (by omega))
          rw [List.take_append_drop] at e2
          rw [e2]; rfl
        simp only [Option.bind_some, hi]

/-! ### taken of one -/

def capH (h : T_api_Hold) (a : T_api_Money) (last : Bool) : T_api_Hold := ⟨h.f_ID, h.f_Acc, h.f_Amount, h.f_Rank, h.f_Made, h.f_Until, h.f_Taken + a.f_Minor, (last || (h.f_Taken + a.f_Minor == h.f_Amount.f_Minor))⟩
def relH (h : T_api_Hold) : T_api_Hold := ⟨h.f_ID, h.f_Acc, h.f_Amount, h.f_Rank, h.f_Made, h.f_Until, h.f_Taken, true⟩

def capL (l : List T_api_Hold) (i : Nat) (h : T_api_Hold) (a : T_api_Money) (now : Int) (last : Bool) : List T_api_Hold × Int :=
  if liveH h now = false then ([], 27) else if a.f_Cur ≠ h.f_Amount.f_Cur then ([], 12) else if (!okM a || decide (a.f_Minor ≤ 0)) = true then ([], 1) else if restH h now < a.f_Minor then ([], 17) else (l.set i (capH h a last), 0)
def relL (l : List T_api_Hold) (i : Nat) (h : T_api_Hold) : List T_api_Hold × Int := if h.f_Done = true then ([], 23) else (l.set i (relH h), 0)

theorem cap_bad {l : List T_api_Hold} (hn : l.length < 4611686018427387904) (hb : chkH l ≠ 0) (id : Int) (a : T_api_Money) (now : Int) (last : Bool) : hold_Capture l id a now last = some ([], chkH l) := by
  unfold hold_Capture
  rw [check_eq l hn]
  simp only [Option.bind_some]
  rw [if_pos (by simpa using hb)]

theorem cap_none {l : List T_api_Hold} (hg : GoodL l) {id : Int} (h : ∀ x ∈ l, x.f_ID ≠ id) (a : T_api_Money) (now : Int) (last : Bool) : hold_Capture l id a now last = some ([], 8) := by
  have hf := hg.few
  obtain ⟨k, hk, e, _⟩ := place_none hg h
  unfold hold_Capture
  rw [check_eq l (by omega), chkH_good.2 hg]
  simp only [Option.bind_some, bne_self_eq_false, Bool.false_eq_true, if_false, e, Bool.not_false, if_true]

theorem cap_taken {h : T_api_Hold} {a : T_api_Money} {now : Int} (hl : liveH h now = true) (hp : 0 < a.f_Minor) (hr : ¬ restH h now < a.f_Minor) : IntKind.wrap .i64 (h.f_Taken + a.f_Minor) = h.f_Taken + a.f_Minor := by
  have := okH_spec (live_ok hl)
  unfold restH at hr
  rw [if_pos hl] at hr
  rw [wrap64 (by omega) (by omega)]

theorem cap_at {l : List T_api_Hold} (hg : GoodL l) {i : Nat} (hi : i < l.length) (a : T_api_Money) (now : Int) (last : Bool) : hold_Capture l l[i].f_ID a now last = some (capL l i l[i] a now last) := by
  have hf := hg.few
  unfold hold_Capture capL
  rw [check_eq l (by omega), chkH_good.2 hg]
  simp only [Option.bind_some, bne_self_eq_false, Bool.false_eq_true, if_false, place_at hg hi rfl, Bool.not_true, rdO_at hi, live_eq, moneyRight_eq, rest_eq]
  cases hl : liveH l[i] now with
  | false => rfl
  | true =>
    simp only [Bool.not_true, Bool.false_eq_true, if_false, Bool.true_eq_false, bne_iff_ne, ne_eq]
    split
    · rfl
    · split
      · rfl
      · rename_i h2
        simp only [decide_eq_true_eq]
        by_cases h3 : restH l[i] now < a.f_Minor
        · rw [if_pos h3, if_pos h3]
        · rw [if_neg h3, if_neg h3, clone_eq (by omega)]
          have hp : 0 < a.f_Minor := by
            simp only [Bool.or_eq_true, decide_eq_true_eq, not_or] at h2
            omega
          have hw := cap_taken hl hp h3
          have hr : ∀ y, rdO (l.set i y) (i : Int) = some y := fun y => by
            rw [rdO_at (by simpa using hi)]; simp
          simp only [Option.bind_some, rdO_at hi, Int.toNat_natCast, hr, gdO_some, hw, List.set_set]
          cases last <;> rfl

theorem rel_bad {l : List T_api_Hold} (hn : l.length < 4611686018427387904) (hb : chkH l ≠ 0) (id : Int) : hold_Release l id = some ([], chkH l) := by
  unfold hold_Release
  rw [check_eq l hn]
  simp only [Option.bind_some]
  rw [if_pos (by simpa using hb)]

theorem rel_none {l : List T_api_Hold} (hg : GoodL l) {id : Int} (h : ∀ x ∈ l, x.f_ID ≠ id) : hold_Release l id = some ([], 8) := by
  have hf := hg.few
  obtain ⟨k, hk, e, _⟩ := place_none hg h
  unfold hold_Release
  rw [check_eq l (by omega), chkH_good.2 hg]
  simp only [Option.bind_some, bne_self_eq_false, Bool.false_eq_true, if_false, e, Bool.not_false, if_true]

theorem rel_at {l : List T_api_Hold} (hg : GoodL l) {i : Nat} (hi : i < l.length) : hold_Release l l[i].f_ID = some (relL l i l[i]) := by
  have hf := hg.few
  unfold hold_Release relL
  rw [check_eq l (by omega), chkH_good.2 hg]
  simp only [Option.bind_some, bne_self_eq_false, Bool.false_eq_true, if_false, place_at hg hi rfl, Bool.not_true, rdO_at hi]
  split
  · rfl
  · rw [clone_eq (by omega)]
    simp only [Option.bind_some, rdO_at hi, Int.toNat_natCast]
    rfl

/-! ### sums -/

def selB (acc cur now : Int) (h : T_api_Hold) : Bool := h.f_Acc == acc && (h.f_Amount.f_Cur == cur && liveH h now)
def wH (acc cur now rank : Int) (h : T_api_Hold) : Int := if h.f_Acc = acc ∧ h.f_Amount.f_Cur = cur ∧ rank ≤ h.f_Rank then restH h now else 0
def sumL (l : List T_api_Hold) (acc cur now rank : Int) : Int := (l.map (wH acc cur now rank)).sum

theorem sel_eq (acc cur now : Int) (h : T_api_Hold) : selO acc cur now h = some (selB acc cur now h) := by
  unfold selO selB
  rw [live_eq]
  cases h.f_Acc == acc with
  | false => rfl
  | true =>
    cases h.f_Amount.f_Cur == cur with
    | false => rfl
    | true => rfl

theorem it_eq (acc cur now : Int) : ∀ l : List T_api_Hold, itO acc cur now l = some (l.filter (selB acc cur now))
  | [] => rfl
  | h :: t => by
    simp only [itO, sel_eq, it_eq acc cur now t, Option.bind_some, Option.map_some, List.filter_cons, Option.some.injEq]
    cases selB acc cur now h <;> rfl

theorem those_eq {l : List T_api_Hold} (hn : l.length ≤ 1000) (acc cur now : Int) : hold_those l acc cur now = some (l.filter (selB acc cur now)) := by
  unfold hold_those
  rw [if_pos (by omega), it_eq]

theorem wH_range (acc cur now rank : Int) (h : T_api_Hold) : 0 ≤ wH acc cur now rank h ∧ wH acc cur now rank h ≤ 1000000000000000 := by
  unfold wH
  split
  · exact restH_range h now
  · omega

theorem sumL_range (acc cur now rank : Int) : ∀ l : List T_api_Hold, 0 ≤ sumL l acc cur now rank ∧ sumL l acc cur now rank ≤ l.length * 1000000000000000
  | [] => by simp [sumL]
  | h :: t => by
    have h1 := wH_range acc cur now rank h
    have h2 := sumL_range acc cur now rank t
    unfold sumL at h2 ⊢
    simp only [List.map_cons, List.sum_cons, List.length_cons]
    omega

theorem sum_fold (acc cur now rank : Int) : ∀ (l : List T_api_Hold) (n : Int), 0 ≤ n → n + l.length * 1000000000000000 ≤ 4000000000000000000 → foldO (sumStep now rank) n (l.filter (selB acc cur now)) = some (n + sumL l acc cur now rank)
  | [], n, _, _ => by simp [foldO, sumL]
  | h :: t, n, h0, h1 => by
    simp only [List.length_cons] at h1
    have hr := restH_range h now
    have e : sumL (h :: t) acc cur now rank = wH acc cur now rank h + sumL t acc cur now rank := by simp [sumL]
    rw [e, List.filter_cons]
    cases hs : selB acc cur now h with
    | false =>
      have hw : wH acc cur now rank h = 0 := by
        unfold selB at hs
        unfold wH restH
        split
        · rename_i hc
          simp only [hc.1, hc.2.1, beq_self_eq_true, Bool.true_and] at hs
          rw [hs]; simp
        · rfl
      rw [if_neg (by simp), sum_fold acc cur now rank t n h0 (by omega), hw]
      simp
    | true =>
      unfold selB at hs
      simp only [Bool.and_eq_true, beq_iff_eq] at hs
      rw [if_pos rfl]
      simp only [foldO, sumStep, rest_eq, Option.bind_some, ge_iff_le]
      by_cases hk : rank ≤ h.f_Rank
      · have hw : wH acc cur now rank h = restH h now := by unfold wH; rw [if_pos ⟨hs.1, hs.2.1, hk⟩]
        simp only [hk, decide_true, if_true, Option.bind_some]
        rw [wrap64 (by omega) (by omega), sum_fold acc cur now rank t _ (by omega) (by omega), hw, Int.add_assoc]
      · have hw : wH acc cur now rank h = 0 := by unfold wH; rw [if_neg (fun hc => hk hc.2.2)]
        simp only [hk, decide_false, Bool.false_eq_true, if_false, Option.bind_some]
        rw [sum_fold acc cur now rank t n h0 (by omega), hw]
        simp

theorem sum_bad {l : List T_api_Hold} (hn : l.length < 4611686018427387904) (hb : chkH l ≠ 0) (acc cur now rank : Int) : hold_Sum l acc cur now rank = some (0, chkH l) := by
  unfold hold_Sum
  rw [check_eq l hn]
  simp only [Option.bind_some]
  rw [if_pos (by simpa using hb)]

theorem sum_eq {l : List T_api_Hold} (hg : GoodL l) (acc cur now rank : Int) : hold_Sum l acc cur now rank = some (sumL l acc cur now rank, 0) := by
  have hf := hg.few
  unfold hold_Sum
  rw [check_eq l (by omega), chkH_good.2 hg]
  simp only [Option.bind_some, bne_self_eq_false, Bool.false_eq_true, if_false, those_eq (show l.length ≤ 1000 by omega), sum_fold acc cur now rank l 0 (by omega) (by omega), Int.zero_add]

end Go.Av.G
