/- What functions of the program compute, in plain words: printed by a program of ours. -/
import Derived.Test.YtkcilagjhieapaaBbri
import Derived.Test.YtkcilagjhieapaaBvX
set_option linter.unusedVariables false
set_option linter.unusedSimpArgs false
set_option maxRecDepth 100000
set_option maxHeartbeats 8000000
namespace Go.Av.G
open Go Go.Av Go.Proofs
structure T_api_Money where
  f_Cur : Int
  f_Minor : Int
  deriving DecidableEq, Inhabited
def T_api_Money.pv (x : T_api_Money) : PV := .agg [.int .i64 x.f_Cur, .int .i64 x.f_Minor]
theorem T_api_Money.pv_inj (x y : T_api_Money) : x.pv = y.pv ↔ x = y := by
  constructor
  · intro h; rcases x with ⟨_, _⟩; rcases y with ⟨_, _⟩; simp [T_api_Money.pv, eInt_maps, eBool_maps, eStr_maps] at h; simp [h]
  · rintro rfl; rfl
theorem T_api_Money.pv_maps (l m : List T_api_Money) : l.map T_api_Money.pv = m.map T_api_Money.pv ↔ l = m := List.map_inj_right (fun x y h => (T_api_Money.pv_inj x y).1 h)
def T_api_Money.same (x y : T_api_Money) : Bool := ((x.f_Cur == y.f_Cur) && ((x.f_Minor == y.f_Minor) && true))
theorem T_api_Money.same_iff (x y : T_api_Money) : T_api_Money.same x y = decide (x = y) := by
  rw [Bool.eq_iff_iff]; rcases x with ⟨_, _⟩; rcases y with ⟨_, _⟩; simp [T_api_Money.same, T_api_Money.mk.injEq, and_assoc]
def T_api_Money.tt : TT := .struct (.field (.int .i64) (.field (.int .i64) .unit))
def T_api_Money.wf (x : T_api_Money) : Prop := inR .i64 x.f_Cur ∧ inR .i64 x.f_Minor
theorem T_api_Money.of {xs : List PV} (hh : T_api_Money.tt.Of xs) : ∃ x : T_api_Money, x.wf ∧ T_api_Money.tt.pack xs = T_api_Money.pv x := by
  obtain ⟨a0, b0, rfl, h0, hh⟩ := hh
  obtain ⟨a1, b1, rfl, h1, hh⟩ := hh
  obtain rfl : _ = [] := hh
  obtain ⟨n0, rfl, w0⟩ := h0
  obtain ⟨n1, rfl, w1⟩ := h1
  exact ⟨⟨n0, n1⟩, ⟨w0, w1⟩, rfl⟩
structure T_api_Hold where
  f_ID : Int
  f_Acc : Int
  f_Amount : T_api_Money
  f_Rank : Int
  f_Made : Int
  f_Until : Int
  f_Taken : Int
  f_Done : Bool
  deriving DecidableEq, Inhabited
def T_api_Hold.pv (x : T_api_Hold) : PV := .agg [.int .i64 x.f_ID, .int .i64 x.f_Acc, .int .i64 x.f_Amount.f_Cur, .int .i64 x.f_Amount.f_Minor, .int .i64 x.f_Rank, .int .i32 x.f_Made, .int .i32 x.f_Until, .int .i64 x.f_Taken, .bool x.f_Done]
theorem T_api_Hold.pv_inj (x y : T_api_Hold) : x.pv = y.pv ↔ x = y := by
  constructor
  · intro h; rcases x with ⟨_, _, ⟨_, _⟩, _, _, _, _, _⟩; rcases y with ⟨_, _, ⟨_, _⟩, _, _, _, _, _⟩; simp [T_api_Hold.pv, eInt_maps, eBool_maps, eStr_maps, T_api_Money.pv_maps] at h; simp [h]
  · rintro rfl; rfl
theorem T_api_Hold.pv_maps (l m : List T_api_Hold) : l.map T_api_Hold.pv = m.map T_api_Hold.pv ↔ l = m := List.map_inj_right (fun x y h => (T_api_Hold.pv_inj x y).1 h)
def T_api_Hold.same (x y : T_api_Hold) : Bool := ((x.f_ID == y.f_ID) && ((x.f_Acc == y.f_Acc) && ((x.f_Amount.f_Cur == y.f_Amount.f_Cur) && ((x.f_Amount.f_Minor == y.f_Amount.f_Minor) && ((x.f_Rank == y.f_Rank) && ((x.f_Made == y.f_Made) && ((x.f_Until == y.f_Until) && ((x.f_Taken == y.f_Taken) && ((x.f_Done == y.f_Done) && true)))))))))
theorem T_api_Hold.same_iff (x y : T_api_Hold) : T_api_Hold.same x y = decide (x = y) := by
  rw [Bool.eq_iff_iff]; rcases x with ⟨_, _, ⟨_, _⟩, _, _, _, _, _⟩; rcases y with ⟨_, _, ⟨_, _⟩, _, _, _, _, _⟩; simp [T_api_Hold.same, T_api_Hold.mk.injEq, T_api_Money.mk.injEq, and_assoc]
def T_api_Hold.tt : TT := .struct (.field (.int .i64) (.field (.int .i64) (.field T_api_Money.tt (.field (.int .i64) (.field (.int .i32) (.field (.int .i32) (.field (.int .i64) (.field .bool .unit))))))))
def T_api_Hold.wf (x : T_api_Hold) : Prop := inR .i64 x.f_ID ∧ inR .i64 x.f_Acc ∧ T_api_Money.wf x.f_Amount ∧ inR .i64 x.f_Rank ∧ inR .i32 x.f_Made ∧ inR .i32 x.f_Until ∧ inR .i64 x.f_Taken ∧ True
theorem T_api_Hold.of {xs : List PV} (hh : T_api_Hold.tt.Of xs) : ∃ x : T_api_Hold, x.wf ∧ T_api_Hold.tt.pack xs = T_api_Hold.pv x := by
  obtain ⟨a0, b0, rfl, h0, hh⟩ := hh
  obtain ⟨a1, b1, rfl, h1, hh⟩ := hh
  obtain ⟨a2, b2, rfl, h2, hh⟩ := hh
  obtain ⟨a3, b3, rfl, h3, hh⟩ := hh
  obtain ⟨a4, b4, rfl, h4, hh⟩ := hh
  obtain ⟨a5, b5, rfl, h5, hh⟩ := hh
  obtain ⟨a6, b6, rfl, h6, hh⟩ := hh
  obtain ⟨a7, b7, rfl, h7, hh⟩ := hh
  obtain rfl : _ = [] := hh
  obtain ⟨n0, rfl, w0⟩ := h0
  obtain ⟨n1, rfl, w1⟩ := h1
  obtain ⟨n2, w2, e2⟩ := T_api_Money.of h2
  obtain rfl := PV.agg.inj e2
  obtain ⟨n3, rfl, w3⟩ := h3
  obtain ⟨n4, rfl, w4⟩ := h4
  obtain ⟨n5, rfl, w5⟩ := h5
  obtain ⟨n6, rfl, w6⟩ := h6
  obtain ⟨n7, rfl⟩ := h7
  exact ⟨⟨n0, n1, n2, n3, n4, n5, n6, n7⟩, ⟨w0, w1, w2, w3, w4, w5, w6, trivial⟩, rfl⟩
structure T_cashbooklaw25_Ask where
  f_Acc : Int
  f_Cur : Int
  f_Now : Int
  f_Rank : Int
  f_Funds : Int
  f_H : T_api_Hold
  deriving DecidableEq, Inhabited
def T_cashbooklaw25_Ask.pv (x : T_cashbooklaw25_Ask) : PV := .agg [.int .i64 x.f_Acc, .int .i64 x.f_Cur, .int .i32 x.f_Now, .int .i64 x.f_Rank, .int .i64 x.f_Funds, .int .i64 x.f_H.f_ID, .int .i64 x.f_H.f_Acc, .int .i64 x.f_H.f_Amount.f_Cur, .int .i64 x.f_H.f_Amount.f_Minor, .int .i64 x.f_H.f_Rank, .int .i32 x.f_H.f_Made, .int .i32 x.f_H.f_Until, .int .i64 x.f_H.f_Taken, .bool x.f_H.f_Done]
theorem T_cashbooklaw25_Ask.pv_inj (x y : T_cashbooklaw25_Ask) : x.pv = y.pv ↔ x = y := by
  constructor
  · intro h; rcases x with ⟨_, _, _, _, _, ⟨_, _, ⟨_, _⟩, _, _, _, _, _⟩⟩; rcases y with ⟨_, _, _, _, _, ⟨_, _, ⟨_, _⟩, _, _, _, _, _⟩⟩; simp [T_cashbooklaw25_Ask.pv, eInt_maps, eBool_maps, eStr_maps, T_api_Money.pv_maps, T_api_Hold.pv_maps] at h; simp [h]
  · rintro rfl; rfl
theorem T_cashbooklaw25_Ask.pv_maps (l m : List T_cashbooklaw25_Ask) : l.map T_cashbooklaw25_Ask.pv = m.map T_cashbooklaw25_Ask.pv ↔ l = m := List.map_inj_right (fun x y h => (T_cashbooklaw25_Ask.pv_inj x y).1 h)
def T_cashbooklaw25_Ask.same (x y : T_cashbooklaw25_Ask) : Bool := ((x.f_Acc == y.f_Acc) && ((x.f_Cur == y.f_Cur) && ((x.f_Now == y.f_Now) && ((x.f_Rank == y.f_Rank) && ((x.f_Funds == y.f_Funds) && ((x.f_H.f_ID == y.f_H.f_ID) && ((x.f_H.f_Acc == y.f_H.f_Acc) && ((x.f_H.f_Amount.f_Cur == y.f_H.f_Amount.f_Cur) && ((x.f_H.f_Amount.f_Minor == y.f_H.f_Amount.f_Minor) && ((x.f_H.f_Rank == y.f_H.f_Rank) && ((x.f_H.f_Made == y.f_H.f_Made) && ((x.f_H.f_Until == y.f_H.f_Until) && ((x.f_H.f_Taken == y.f_H.f_Taken) && ((x.f_H.f_Done == y.f_H.f_Done) && true))))))))))))))
theorem T_cashbooklaw25_Ask.same_iff (x y : T_cashbooklaw25_Ask) : T_cashbooklaw25_Ask.same x y = decide (x = y) := by
  rw [Bool.eq_iff_iff]; rcases x with ⟨_, _, _, _, _, ⟨_, _, ⟨_, _⟩, _, _, _, _, _⟩⟩; rcases y with ⟨_, _, _, _, _, ⟨_, _, ⟨_, _⟩, _, _, _, _, _⟩⟩; simp [T_cashbooklaw25_Ask.same, T_cashbooklaw25_Ask.mk.injEq, T_api_Hold.mk.injEq, T_api_Money.mk.injEq, and_assoc]
def T_cashbooklaw25_Ask.tt : TT := .struct (.field (.int .i64) (.field (.int .i64) (.field (.int .i32) (.field (.int .i64) (.field (.int .i64) (.field T_api_Hold.tt .unit))))))
def T_cashbooklaw25_Ask.wf (x : T_cashbooklaw25_Ask) : Prop := inR .i64 x.f_Acc ∧ inR .i64 x.f_Cur ∧ inR .i32 x.f_Now ∧ inR .i64 x.f_Rank ∧ inR .i64 x.f_Funds ∧ T_api_Hold.wf x.f_H
theorem T_cashbooklaw25_Ask.of {xs : List PV} (hh : T_cashbooklaw25_Ask.tt.Of xs) : ∃ x : T_cashbooklaw25_Ask, x.wf ∧ T_cashbooklaw25_Ask.tt.pack xs = T_cashbooklaw25_Ask.pv x := by
  obtain ⟨a0, b0, rfl, h0, hh⟩ := hh
  obtain ⟨a1, b1, rfl, h1, hh⟩ := hh
  obtain ⟨a2, b2, rfl, h2, hh⟩ := hh
  obtain ⟨a3, b3, rfl, h3, hh⟩ := hh
  obtain ⟨a4, b4, rfl, h4, hh⟩ := hh
  obtain ⟨a5, b5, rfl, h5, hh⟩ := hh
  obtain rfl : _ = [] := hh
  obtain ⟨n0, rfl, w0⟩ := h0
  obtain ⟨n1, rfl, w1⟩ := h1
  obtain ⟨n2, rfl, w2⟩ := h2
  obtain ⟨n3, rfl, w3⟩ := h3
  obtain ⟨n4, rfl, w4⟩ := h4
  obtain ⟨n5, w5, e5⟩ := T_api_Hold.of h5
  obtain rfl := PV.agg.inj e5
  exact ⟨⟨n0, n1, n2, n3, n4, n5⟩, ⟨w0, w1, w2, w3, w4, w5⟩, rfl⟩
structure T_api_Covered where
  f_ID : Int
  f_Much : Int
  deriving DecidableEq, Inhabited
def T_api_Covered.pv (x : T_api_Covered) : PV := .agg [.int .i64 x.f_ID, .int .i64 x.f_Much]
theorem T_api_Covered.pv_inj (x y : T_api_Covered) : x.pv = y.pv ↔ x = y := by
  constructor
  · intro h; rcases x with ⟨_, _⟩; rcases y with ⟨_, _⟩; simp [T_api_Covered.pv, eInt_maps, eBool_maps, eStr_maps, T_api_Money.pv_maps, T_api_Hold.pv_maps, T_cashbooklaw25_Ask.pv_maps] at h; simp [h]
  · rintro rfl; rfl
theorem T_api_Covered.pv_maps (l m : List T_api_Covered) : l.map T_api_Covered.pv = m.map T_api_Covered.pv ↔ l = m := List.map_inj_right (fun x y h => (T_api_Covered.pv_inj x y).1 h)
def T_api_Covered.same (x y : T_api_Covered) : Bool := ((x.f_ID == y.f_ID) && ((x.f_Much == y.f_Much) && true))
theorem T_api_Covered.same_iff (x y : T_api_Covered) : T_api_Covered.same x y = decide (x = y) := by
  rw [Bool.eq_iff_iff]; rcases x with ⟨_, _⟩; rcases y with ⟨_, _⟩; simp [T_api_Covered.same, T_api_Covered.mk.injEq, and_assoc]
def T_api_Covered.tt : TT := .struct (.field (.int .i64) (.field (.int .i64) .unit))
def T_api_Covered.wf (x : T_api_Covered) : Prop := inR .i64 x.f_ID ∧ inR .i64 x.f_Much
theorem T_api_Covered.of {xs : List PV} (hh : T_api_Covered.tt.Of xs) : ∃ x : T_api_Covered, x.wf ∧ T_api_Covered.tt.pack xs = T_api_Covered.pv x := by
  obtain ⟨a0, b0, rfl, h0, hh⟩ := hh
  obtain ⟨a1, b1, rfl, h1, hh⟩ := hh
  obtain rfl : _ = [] := hh
  obtain ⟨n0, rfl, w0⟩ := h0
  obtain ⟨n1, rfl, w1⟩ := h1
  exact ⟨⟨n0, n1⟩, ⟨w0, w1⟩, rfl⟩
/-- cashbook/money.is -/
def money_is (cur1 : Int) : Option Bool :=
  (some (decide (cur1 ≥ 0))).bind fun c2 =>
  some (c2 && (decide (cur1 < 4)))
/-- cashbook/money.Right -/
def money_Right (m1 : T_api_Money) : Option Bool :=
  (money_is m1.f_Cur).bind fun x2 =>
  (some (x2 && (decide (m1.f_Minor ≥ (-1000000000000000))))).bind fun c3 =>
  some (c3 && (decide (m1.f_Minor ≤ 1000000000000000)))
/-- cashbook/date.Right -/
def date_Right (d1 : Int) : Option Bool :=
  (some (decide (d1 ≥ (-50000)))).bind fun c2 =>
  some (c2 && (decide (d1 ≤ 50000)))
/-- cashbook/hold.right -/
def hold_right (h1 : T_api_Hold) : Option Bool :=
  (some (decide (h1.f_ID ≥ 1))).bind fun c2 =>
  (some (c2 && (decide (h1.f_ID ≤ 1000000)))).bind fun c3 =>
  (some (c3 && (decide (h1.f_Acc ≥ 1)))).bind fun c4 =>
  (some (c4 && (decide (h1.f_Acc ≤ 999)))).bind fun c5 =>
  (some (c5 && (decide (h1.f_Rank ≥ 0)))).bind fun c6 =>
  (money_Right h1.f_Amount).bind fun x7 =>
  (some (x7 && (decide (h1.f_Amount.f_Minor > 0)))).bind fun c8 =>
  (some (c8 && (decide (h1.f_Taken ≥ 0)))).bind fun c9 =>
  (some (c6 && (decide (h1.f_Rank ≤ 9)))).bind fun c10 =>
  (some (c10 && (c9 && (decide (h1.f_Taken ≤ h1.f_Amount.f_Minor))))).bind fun c11 =>
  (gdO c11 (date_Right h1.f_Made) (default : Bool)).bind fun x12 =>
  (some (c11 && x12)).bind fun c13 =>
  (gdO c13 (date_Right h1.f_Until) (default : Bool)).bind fun x14 =>
  (some (c13 && x14)).bind fun c15 =>
  some (c15 && (decide (h1.f_Made ≤ h1.f_Until)))
/-- cashbook/hold.Check$1 -/
def hold_Check_1 (h1 : T_api_Hold) : Option Bool :=
  (hold_right h1).bind fun x2 =>
  some (!x2)
/-- slices.IndexFunc[[]cashbook/api.Hold,cashbook/api.Hold] -/
noncomputable def slices_IndexFunc_Hold_Hold (s1 : List T_api_Hold) : Option Int :=
  ((loopO (fun (qj2 : Int) => match qj2 with
    | x3 => (
      if (decide (x3 < (s1.length : Int))) = true then
        (rdO s1 x3).bind fun x4 =>
        (hold_Check_1 x4).bind fun x5 =>
        if x5 = true then
          some (.inr (.inr x3))
        else
          some (.inl (IntKind.wrap .i64 (x3 + 1)))
      else
        some (.inr (.inl ())) : Option (Int ⊕ (Unit ⊕ Int)))) 0) : Option (Unit ⊕ Int)).bind fun j2 => match j2 with
  | .inr o => some o
  | .inl _ =>
  some (-1)
/-- slices.ContainsFunc[[]cashbook/api.Hold,cashbook/api.Hold] -/
noncomputable def slices_ContainsFunc_Hold_Hold (s1 : List T_api_Hold) : Option Bool :=
  (slices_IndexFunc_Hold_Hold s1).bind fun x2 =>
  some (decide (x2 ≥ 0))
/-- cashbook/hold.Check -/
noncomputable def hold_Check (l1 : List T_api_Hold) : Option Int :=
  (slices_ContainsFunc_Hold_Hold l1).bind fun x2 =>
  if x2 = true then
    some 1
  else
    ((loopO (fun (qj3 : Int) => match qj3 with
      | i4 => (
        if (decide (i4 < (l1.length : Int))) = true then
          (rdO l1 (IntKind.wrap .i64 (i4 - 1))).bind fun x5 =>
          (rdO l1 i4).bind fun x6 =>
          if (decide (x5.f_ID ≥ x6.f_ID)) = true then
            some (.inr (.inr 20))
          else
            some (.inl (IntKind.wrap .i64 (i4 + 1)))
        else
          some (.inr (.inl ())) : Option (Int ⊕ (Unit ⊕ Int)))) 1) : Option (Unit ⊕ Int)).bind fun j3 => match j3 with
    | .inr o => some o
    | .inl _ =>
    if (decide ((l1.length : Int) > 200)) = true then
      some 6
    else
      some 0
/-- cashbook/cashbooklaw25.one -/
def cashbooklaw25_one (id1 : Int) (rank2 : Int) : Option T_api_Hold :=
  some (⟨id1, 1, (⟨0, 100⟩ : T_api_Money), rank2, 0, 9, 0, false⟩ : T_api_Hold)
/-- cmp.isNaN[int] -/
def cmp_isNaN_int (x1 : Int) : Option Bool :=
  some (x1 != x1)
/-- cmp.Compare[int] -/
def cmp_Compare_int (x1 : Int) (y2 : Int) : Option Int :=
  (cmp_isNaN_int x1).bind fun x3 =>
  (cmp_isNaN_int y2).bind fun x4 =>
  if x3 = true then
    if x4 = true then
      some 0
    else
      some (-1)
  else
    if x4 = true then
      some 1
    else
      if (decide (x1 < y2)) = true then
        some (-1)
      else
        if (decide (x1 > y2)) = true then
          some 1
        else
          some 0
/-- cashbook/hold.place$1 -/
def hold_place_1 (h1 : T_api_Hold) (id2 : Int) : Option Int :=
  (cmp_Compare_int h1.f_ID id2).bind fun x3 =>
  some x3
/-- slices.BinarySearchFunc[[]cashbook/api.Hold,cashbook/api.Hold,int] -/
noncomputable def slices_BinarySearchFunc_Hold_Hold_int (x1 : List T_api_Hold) (target2 : Int) : Option (Int × Bool) :=
  ((loopO (fun (qj3 : Int × Int) => match qj3 with
    | (i4, j5) => (
      if (decide (i4 < j5)) = true then
        (rdO x1 (IntKind.wrap .i64 (Int.fdiv (IntKind.wrap .u64 (IntKind.wrap .i64 (i4 + j5))) 2))).bind fun x6 =>
        (hold_place_1 x6 target2).bind fun x7 =>
        if (decide (x7 < 0)) = true then
          some (.inl (IntKind.wrap .i64 ((IntKind.wrap .i64 (Int.fdiv (IntKind.wrap .u64 (IntKind.wrap .i64 (i4 + j5))) 2)) + 1), j5))
        else
          some (.inl (i4, IntKind.wrap .i64 (Int.fdiv (IntKind.wrap .u64 (IntKind.wrap .i64 (i4 + j5))) 2)))
      else
        some (.inr i4) : Option ((Int × Int) ⊕ Int))) (0, (x1.length : Int))) : Option Int).bind fun j3 =>
  (some (decide (j3 < (x1.length : Int)))).bind fun c9 =>
  (gdO c9 (rdO x1 j3) (default : T_api_Hold)).bind fun x10 =>
  (gdO c9 (hold_place_1 x10 target2) (default : Int)).bind fun x11 =>
  some (j3, (c9 && (x11 == 0)))
/-- cashbook/hold.place -/
noncomputable def hold_place (l1 : List T_api_Hold) (id2 : Int) : Option (Int × Bool) :=
  (slices_BinarySearchFunc_Hold_Hold_int l1 id2).bind fun x3 =>
  some (x3.1, x3.2)
/-- cashbook/hold.Add -/
noncomputable def hold_Add (l1 : List T_api_Hold) (h2 : T_api_Hold) : Option ((List T_api_Hold) × Int) :=
  (hold_Check l1).bind fun x3 =>
  if (x3 != 0) = true then
    some (([] : List T_api_Hold), x3)
  else
    (hold_place l1 h2.f_ID).bind fun x4 =>
    (hold_right h2).bind fun x5 =>
    (some (!x5)).bind fun c6 =>
    (some (c6 || (decide (h2.f_Taken > 0)))).bind fun c7 =>
    if (c7 || h2.f_Done) = true then
      some (([] : List T_api_Hold), 1)
    else
      if x4.2 = true then
        some (([] : List T_api_Hold), 26)
      else
        if (decide ((l1.length : Int) ≥ 200)) = true then
          some (([] : List T_api_Hold), 6)
        else
          (slices_Clone 64 l1).bind fun x8 =>
          (insO 64 x8 x4.1 h2).bind fun x9 =>
          some (x9, 0)
/-- cashbook/hold.Live -/
def hold_Live (h1 : T_api_Hold) (now2 : Int) : Option Bool :=
  (hold_right h1).bind fun x3 =>
  (some (x3 && (!h1.f_Done))).bind fun c4 =>
  (some (c4 && (decide (now2 ≥ h1.f_Made)))).bind fun c5 =>
  some (c5 && (decide (now2 ≤ h1.f_Until)))
/-- cashbook/hold.Rest -/
def hold_Rest (h1 : T_api_Hold) (now2 : Int) : Option Int :=
  (hold_Live h1 now2).bind fun x3 =>
  if (!x3) = true then
    some 0
  else
    some (IntKind.wrap .i64 (h1.f_Amount.f_Minor - h1.f_Taken))
/-- cashbook/hold.Capture -/
noncomputable def hold_Capture (l1 : List T_api_Hold) (id2 : Int) (amount3 : T_api_Money) (now4 : Int) (last5 : Bool) : Option ((List T_api_Hold) × Int) :=
  (hold_Check l1).bind fun x6 =>
  if (x6 != 0) = true then
    some (([] : List T_api_Hold), x6)
  else
    (hold_place l1 id2).bind fun x7 =>
    if (!x7.2) = true then
      some (([] : List T_api_Hold), 8)
    else
      (rdO l1 x7.1).bind fun x8 =>
      (hold_Live x8 now4).bind fun x9 =>
      if (!x9) = true then
        some (([] : List T_api_Hold), 27)
      else
        (rdO l1 x7.1).bind fun x10 =>
        if (amount3.f_Cur != x10.f_Amount.f_Cur) = true then
          some (([] : List T_api_Hold), 12)
        else
          (money_Right amount3).bind fun x11 =>
          (some (!x11)).bind fun c12 =>
          if (c12 || (decide (amount3.f_Minor ≤ 0))) = true then
            some (([] : List T_api_Hold), 1)
          else
            (rdO l1 x7.1).bind fun x13 =>
            (hold_Rest x13 now4).bind fun x14 =>
            if (decide (amount3.f_Minor > x14)) = true then
              some (([] : List T_api_Hold), 17)
            else
              (slices_Clone 64 l1).bind fun x15 =>
              (rdO x15 x7.1).bind fun x16 =>
              (rdO x15 x7.1).bind fun x17 =>
              (gdO (!last5) (rdO (List.set x15 (Int.toNat x7.1) (⟨x17.f_ID, x17.f_Acc, x17.f_Amount, x17.f_Rank, x17.f_Made, x17.f_Until, IntKind.wrap .i64 (x16.f_Taken + amount3.f_Minor), x17.f_Done⟩ : T_api_Hold)) x7.1) (default : T_api_Hold)).bind fun x18 =>
              (gdO (!last5) (rdO (List.set x15 (Int.toNat x7.1) (⟨x17.f_ID, x17.f_Acc, x17.f_Amount, x17.f_Rank, x17.f_Made, x17.f_Until, IntKind.wrap .i64 (x16.f_Taken + amount3.f_Minor), x17.f_Done⟩ : T_api_Hold)) x7.1) (default : T_api_Hold)).bind fun x19 =>
              (rdO (List.set x15 (Int.toNat x7.1) (⟨x17.f_ID, x17.f_Acc, x17.f_Amount, x17.f_Rank, x17.f_Made, x17.f_Until, IntKind.wrap .i64 (x16.f_Taken + amount3.f_Minor), x17.f_Done⟩ : T_api_Hold)) x7.1).bind fun x20 =>
              some ((List.set (List.set x15 (Int.toNat x7.1) (⟨x17.f_ID, x17.f_Acc, x17.f_Amount, x17.f_Rank, x17.f_Made, x17.f_Until, IntKind.wrap .i64 (x16.f_Taken + amount3.f_Minor), x17.f_Done⟩ : T_api_Hold)) (Int.toNat x7.1) (⟨x20.f_ID, x20.f_Acc, x20.f_Amount, x20.f_Rank, x20.f_Made, x20.f_Until, x20.f_Taken, (last5 || (x18.f_Taken == x19.f_Amount.f_Minor))⟩ : T_api_Hold)), 0)
def selO (acc cur now : Int) (h : T_api_Hold) : Option Bool :=
  if (h.f_Acc == acc) = true then if (h.f_Amount.f_Cur == cur) = true then hold_Live h now else some false else some false
def itO (acc cur now : Int) : List T_api_Hold → Option (List T_api_Hold)
  | [] => some []
  | h :: t => (selO acc cur now h).bind fun b => (itO acc cur now t).map fun r => bif b then h :: r else r
def sumStep (now rank : Int) (n : Int) (h : T_api_Hold) : Option Int :=
  if (decide (h.f_Rank ≥ rank)) = true then (hold_Rest h now).bind fun x => some (IntKind.wrap .i64 (n + x)) else some n
/-- cashbook/hold.those, gone through to its end -/
def hold_those (l : List T_api_Hold) (acc cur now : Int) : Option (List T_api_Hold) :=
  if (l.length : Int) < 4611686018427387904 then itO acc cur now l else none
/-- cashbook/hold.Sum -/
noncomputable def hold_Sum (l : List T_api_Hold) (acc cur now rank : Int) : Option (Int × Int) :=
  (hold_Check l).bind fun e => if (e != 0) = true then some (0, e) else
  (hold_those l acc cur now).bind fun r => (foldO (sumStep now rank) 0 r).bind fun n => some (n, 0)
/-- slices.Collect of hold.those -/
def hold_collect (l : List T_api_Hold) (acc cur now : Int) : Option (List T_api_Hold) :=
  (hold_those l acc cur now).bind fun q => foldO (fun s x => apO 64 s [x]) [] q
/-- cashbook/hold.Cover$1 -/
def hold_Cover_1 (a1 : T_api_Hold) (b2 : T_api_Hold) : Option Int :=
  (cmp_Compare_int b2.f_Rank a1.f_Rank).bind fun x3 =>
  some x3
/-- slices.insertionSortCmpFunc[cashbook/api.Hold] -/
noncomputable def slices_insertionSortCmpFunc_Hold (a1 : Int) (b2 : Int) (l3 : List T_api_Hold) : Option (List T_api_Hold) :=
  ((loopO (fun (qj4 : Int × (List T_api_Hold)) => match qj4 with
    | (i5, row6) => (
      if (decide (i5 < b2)) = true then
        ((loopO (fun (qj7 : Int × (List T_api_Hold)) => match qj7 with
          | (j8, row9) => (
            (some (decide (j8 > a1))).bind fun c10 =>
            (gdO c10 (rdO row9 j8) (default : T_api_Hold)).bind fun x11 =>
            (gdO c10 (rdO row9 (IntKind.wrap .i64 (j8 - 1))) (default : T_api_Hold)).bind fun x12 =>
            (gdO c10 (hold_Cover_1 x11 x12) (default : Int)).bind fun x13 =>
            if (c10 && (decide (x13 < 0))) = true then
              (rdO row9 (IntKind.wrap .i64 (j8 - 1))).bind fun x14 =>
              (rdO row9 j8).bind fun x15 =>
              (rdO row9 j8).bind fun x16 =>
              (rdO (List.set row9 (Int.toNat j8) x14) (IntKind.wrap .i64 (j8 - 1))).bind fun x17 =>
              some (.inl (IntKind.wrap .i64 (j8 - 1), (List.set (List.set row9 (Int.toNat j8) x14) (Int.toNat (IntKind.wrap .i64 (j8 - 1))) x15)))
            else
              some (.inr row9) : Option ((Int × (List T_api_Hold)) ⊕ (List T_api_Hold)))) (i5, row6)) : Option (List T_api_Hold)).bind fun j7 =>
        some (.inl (IntKind.wrap .i64 (i5 + 1), j7))
      else
        some (.inr row6) : Option ((Int × (List T_api_Hold)) ⊕ (List T_api_Hold)))) (IntKind.wrap .i64 (a1 + 1), l3)) : Option (List T_api_Hold)).bind fun j4 =>
  some j4
/-- slices.swapRangeCmpFunc[cashbook/api.Hold] -/
noncomputable def slices_swapRangeCmpFunc_Hold (a1 : Int) (b2 : Int) (n3 : Int) (l4 : List T_api_Hold) : Option (List T_api_Hold) :=
  ((loopO (fun (qj5 : Int × (List T_api_Hold)) => match qj5 with
    | (i6, row7) => (
      if (decide (i6 < n3)) = true then
        (rdO row7 (IntKind.wrap .i64 (b2 + i6))).bind fun x8 =>
        (rdO row7 (IntKind.wrap .i64 (a1 + i6))).bind fun x9 =>
        (rdO row7 (IntKind.wrap .i64 (a1 + i6))).bind fun x10 =>
        (rdO (List.set row7 (Int.toNat (IntKind.wrap .i64 (a1 + i6))) x8) (IntKind.wrap .i64 (b2 + i6))).bind fun x11 =>
        some (.inl (IntKind.wrap .i64 (i6 + 1), (List.set (List.set row7 (Int.toNat (IntKind.wrap .i64 (a1 + i6))) x8) (Int.toNat (IntKind.wrap .i64 (b2 + i6))) x9)))
      else
        some (.inr row7) : Option ((Int × (List T_api_Hold)) ⊕ (List T_api_Hold)))) (0, l4)) : Option (List T_api_Hold)).bind fun j5 =>
  some j5
/-- slices.rotateCmpFunc[cashbook/api.Hold] -/
noncomputable def slices_rotateCmpFunc_Hold (a1 : Int) (m2 : Int) (b3 : Int) (l4 : List T_api_Hold) : Option (List T_api_Hold) :=
  ((loopO (fun (qj5 : Int × Int × (List T_api_Hold)) => match qj5 with
    | (i6, j7, row8) => (
      if (i6 != j7) = true then
        if (decide (i6 > j7)) = true then
          (slices_swapRangeCmpFunc_Hold (IntKind.wrap .i64 (m2 - i6)) m2 j7 row8).bind fun x9 =>
          some (.inl (IntKind.wrap .i64 (i6 - j7), j7, x9))
        else
          (slices_swapRangeCmpFunc_Hold (IntKind.wrap .i64 (m2 - i6)) (IntKind.wrap .i64 ((IntKind.wrap .i64 (m2 + j7)) - i6)) i6 row8).bind fun x10 =>
          some (.inl (i6, IntKind.wrap .i64 (j7 - i6), x10))
      else
        some (.inr (i6, row8)) : Option ((Int × Int × (List T_api_Hold)) ⊕ (Int × (List T_api_Hold))))) (IntKind.wrap .i64 (m2 - a1), IntKind.wrap .i64 (b3 - m2), l4)) : Option (Int × (List T_api_Hold))).bind fun (i11, row12) =>
  (slices_swapRangeCmpFunc_Hold (IntKind.wrap .i64 (m2 - i11)) m2 i11 row12).bind fun x13 =>
  some x13
/-- slices.symMergeCmpFunc[cashbook/api.Hold] -/
noncomputable def slices_symMergeCmpFunc_Hold : Nat → Int → Int → Int → (List T_api_Hold) → Option (List T_api_Hold)
  | 0, _, _, _, _ => none
  | fuel + 1, a1, m2, b3, l4 =>
    if ((IntKind.wrap .i64 (m2 - a1)) == 1) = true then
      ((loopO (fun (qj5 : Int × Int) => match qj5 with
        | (i6, j7) => (
          if (decide (i6 < j7)) = true then
            (rdO l4 (IntKind.wrap .i64 (Int.fdiv (IntKind.wrap .u64 (IntKind.wrap .i64 (i6 + j7))) 2))).bind fun x8 =>
            (rdO l4 a1).bind fun x9 =>
            (hold_Cover_1 x8 x9).bind fun x10 =>
            if (decide (x10 < 0)) = true then
              some (.inl (IntKind.wrap .i64 ((IntKind.wrap .i64 (Int.fdiv (IntKind.wrap .u64 (IntKind.wrap .i64 (i6 + j7))) 2)) + 1), j7))
            else
              some (.inl (i6, IntKind.wrap .i64 (Int.fdiv (IntKind.wrap .u64 (IntKind.wrap .i64 (i6 + j7))) 2)))
          else
            some (.inr i6) : Option ((Int × Int) ⊕ Int))) (m2, b3)) : Option Int).bind fun j5 =>
      ((loopO (fun (qj12 : Int × (List T_api_Hold)) => match qj12 with
        | (k13, row14) => (
          if (decide (k13 < (IntKind.wrap .i64 (j5 - 1)))) = true then
            (rdO row14 (IntKind.wrap .i64 (k13 + 1))).bind fun x15 =>
            (rdO row14 k13).bind fun x16 =>
            (rdO row14 k13).bind fun x17 =>
            (rdO (List.set row14 (Int.toNat k13) x15) (IntKind.wrap .i64 (k13 + 1))).bind fun x18 =>
            some (.inl (IntKind.wrap .i64 (k13 + 1), (List.set (List.set row14 (Int.toNat k13) x15) (Int.toNat (IntKind.wrap .i64 (k13 + 1))) x16)))
          else
            some (.inr row14) : Option ((Int × (List T_api_Hold)) ⊕ (List T_api_Hold)))) (a1, l4)) : Option (List T_api_Hold)).bind fun j12 =>
      some j12
    else
      if ((IntKind.wrap .i64 (b3 - m2)) == 1) = true then
        ((loopO (fun (qj20 : Int × Int) => match qj20 with
          | (i21, j22) => (
            if (decide (i21 < j22)) = true then
              (rdO l4 m2).bind fun x23 =>
              (rdO l4 (IntKind.wrap .i64 (Int.fdiv (IntKind.wrap .u64 (IntKind.wrap .i64 (i21 + j22))) 2))).bind fun x24 =>
              (hold_Cover_1 x23 x24).bind fun x25 =>
              if (!(decide (x25 < 0))) = true then
                some (.inl (IntKind.wrap .i64 ((IntKind.wrap .i64 (Int.fdiv (IntKind.wrap .u64 (IntKind.wrap .i64 (i21 + j22))) 2)) + 1), j22))
              else
                some (.inl (i21, IntKind.wrap .i64 (Int.fdiv (IntKind.wrap .u64 (IntKind.wrap .i64 (i21 + j22))) 2)))
            else
              some (.inr i21) : Option ((Int × Int) ⊕ Int))) (a1, m2)) : Option Int).bind fun j20 =>
        ((loopO (fun (qj27 : Int × (List T_api_Hold)) => match qj27 with
          | (k28, row29) => (
            if (decide (k28 > j20)) = true then
              (rdO row29 (IntKind.wrap .i64 (k28 - 1))).bind fun x30 =>
              (rdO row29 k28).bind fun x31 =>
              (rdO row29 k28).bind fun x32 =>
              (rdO (List.set row29 (Int.toNat k28) x30) (IntKind.wrap .i64 (k28 - 1))).bind fun x33 =>
              some (.inl (IntKind.wrap .i64 (k28 - 1), (List.set (List.set row29 (Int.toNat k28) x30) (Int.toNat (IntKind.wrap .i64 (k28 - 1))) x31)))
            else
              some (.inr row29) : Option ((Int × (List T_api_Hold)) ⊕ (List T_api_Hold)))) (m2, l4)) : Option (List T_api_Hold)).bind fun j27 =>
        some j27
      else
        ((if (decide (m2 > (IntKind.wrap .i64 (Int.fdiv (IntKind.wrap .u64 (IntKind.wrap .i64 (a1 + b3))) 2)))) = true then
          some (IntKind.wrap .i64 ((IntKind.wrap .i64 ((IntKind.wrap .i64 (Int.fdiv (IntKind.wrap .u64 (IntKind.wrap .i64 (a1 + b3))) 2)) + m2)) - b3), IntKind.wrap .i64 (Int.fdiv (IntKind.wrap .u64 (IntKind.wrap .i64 (a1 + b3))) 2))
        else
          some (a1, m2)) : Option (Int × Int)).bind fun (start36, r37) =>
        ((loopO (fun (qj38 : Int × Int) => match qj38 with
          | (start39, r40) => (
            if (decide (start39 < r40)) = true then
              (rdO l4 (IntKind.wrap .i64 ((IntKind.wrap .i64 ((IntKind.wrap .i64 ((IntKind.wrap .i64 (Int.fdiv (IntKind.wrap .u64 (IntKind.wrap .i64 (a1 + b3))) 2)) + m2)) - 1)) - (IntKind.wrap .i64 (Int.fdiv (IntKind.wrap .u64 (IntKind.wrap .i64 (start39 + r40))) 2))))).bind fun x41 =>
              (rdO l4 (IntKind.wrap .i64 (Int.fdiv (IntKind.wrap .u64 (IntKind.wrap .i64 (start39 + r40))) 2))).bind fun x42 =>
              (hold_Cover_1 x41 x42).bind fun x43 =>
              if (!(decide (x43 < 0))) = true then
                some (.inl (IntKind.wrap .i64 ((IntKind.wrap .i64 (Int.fdiv (IntKind.wrap .u64 (IntKind.wrap .i64 (start39 + r40))) 2)) + 1), r40))
              else
                some (.inl (start39, IntKind.wrap .i64 (Int.fdiv (IntKind.wrap .u64 (IntKind.wrap .i64 (start39 + r40))) 2)))
            else
              some (.inr start39) : Option ((Int × Int) ⊕ Int))) (start36, r37)) : Option Int).bind fun j38 =>
        (some (decide (j38 < m2))).bind fun c45 =>
        ((if (c45 && (decide (m2 < (IntKind.wrap .i64 ((IntKind.wrap .i64 ((IntKind.wrap .i64 (Int.fdiv (IntKind.wrap .u64 (IntKind.wrap .i64 (a1 + b3))) 2)) + m2)) - j38))))) = true then
          (slices_rotateCmpFunc_Hold j38 m2 (IntKind.wrap .i64 ((IntKind.wrap .i64 ((IntKind.wrap .i64 (Int.fdiv (IntKind.wrap .u64 (IntKind.wrap .i64 (a1 + b3))) 2)) + m2)) - j38)) l4).bind fun x47 =>
          some x47
        else
          some l4) : Option (List T_api_Hold)).bind fun j46 =>
        (some (decide (a1 < j38))).bind fun c49 =>
        ((if (c49 && (decide (j38 < (IntKind.wrap .i64 (Int.fdiv (IntKind.wrap .u64 (IntKind.wrap .i64 (a1 + b3))) 2))))) = true then
          (slices_symMergeCmpFunc_Hold fuel a1 j38 (IntKind.wrap .i64 (Int.fdiv (IntKind.wrap .u64 (IntKind.wrap .i64 (a1 + b3))) 2)) j46).bind fun x51 =>
          some x51
        else
          some j46) : Option (List T_api_Hold)).bind fun j50 =>
        (some (decide ((IntKind.wrap .i64 (Int.fdiv (IntKind.wrap .u64 (IntKind.wrap .i64 (a1 + b3))) 2)) < (IntKind.wrap .i64 ((IntKind.wrap .i64 ((IntKind.wrap .i64 (Int.fdiv (IntKind.wrap .u64 (IntKind.wrap .i64 (a1 + b3))) 2)) + m2)) - j38))))).bind fun c53 =>
        if (c53 && (decide ((IntKind.wrap .i64 ((IntKind.wrap .i64 ((IntKind.wrap .i64 (Int.fdiv (IntKind.wrap .u64 (IntKind.wrap .i64 (a1 + b3))) 2)) + m2)) - j38)) < b3))) = true then
          (slices_symMergeCmpFunc_Hold fuel (IntKind.wrap .i64 (Int.fdiv (IntKind.wrap .u64 (IntKind.wrap .i64 (a1 + b3))) 2)) (IntKind.wrap .i64 ((IntKind.wrap .i64 ((IntKind.wrap .i64 (Int.fdiv (IntKind.wrap .u64 (IntKind.wrap .i64 (a1 + b3))) 2)) + m2)) - j38)) b3 j50).bind fun x54 =>
          some x54
        else
          some j50
/-- slices.stableCmpFunc[cashbook/api.Hold] -/
noncomputable def slices_stableCmpFunc_Hold (n1 : Int) (l2 : List T_api_Hold) : Option (List T_api_Hold) :=
  ((loopO (fun (qj3 : Int × Int × (List T_api_Hold)) => match qj3 with
    | (a4, b5, row6) => (
      if (decide (b5 ≤ n1)) = true then
        (slices_insertionSortCmpFunc_Hold a4 b5 row6).bind fun x7 =>
        some (.inl (b5, IntKind.wrap .i64 (b5 + 20), x7))
      else
        some (.inr (a4, row6)) : Option ((Int × Int × (List T_api_Hold)) ⊕ (Int × (List T_api_Hold))))) (0, 20, l2)) : Option (Int × (List T_api_Hold))).bind fun (a8, row9) =>
  (slices_insertionSortCmpFunc_Hold a8 n1 row9).bind fun x10 =>
  ((loopO (fun (qj11 : Int × (List T_api_Hold)) => match qj11 with
    | (blockSize12, row13) => (
      if (decide (blockSize12 < n1)) = true then
        ((loopO (fun (qj14 : Int × Int × (List T_api_Hold)) => match qj14 with
          | (a15, b16, row17) => (
            if (decide (b16 ≤ n1)) = true then
              (slices_symMergeCmpFunc_Hold 1000 a15 (IntKind.wrap .i64 (a15 + blockSize12)) b16 row17).bind fun x18 =>
              some (.inl (b16, IntKind.wrap .i64 (b16 + (IntKind.wrap .i64 (2 * blockSize12))), x18))
            else
              some (.inr (a15, row17)) : Option ((Int × Int × (List T_api_Hold)) ⊕ (Int × (List T_api_Hold))))) (0, IntKind.wrap .i64 (2 * blockSize12), row13)) : Option (Int × (List T_api_Hold))).bind fun (a19, row20) =>
        ((if (decide ((IntKind.wrap .i64 (a19 + blockSize12)) < n1)) = true then
          (slices_symMergeCmpFunc_Hold 1000 a19 (IntKind.wrap .i64 (a19 + blockSize12)) n1 row20).bind fun x22 =>
          some x22
        else
          some row20) : Option (List T_api_Hold)).bind fun j21 =>
        some (.inl (IntKind.wrap .i64 (blockSize12 * 2), j21))
      else
        some (.inr row13) : Option ((Int × (List T_api_Hold)) ⊕ (List T_api_Hold)))) (20, x10)) : Option (List T_api_Hold)).bind fun j11 =>
  some j11
/-- slices.SortStableFunc[[]cashbook/api.Hold,cashbook/api.Hold] -/
noncomputable def slices_SortStableFunc_Hold_Hold (l1 : List T_api_Hold) : Option (List T_api_Hold) :=
  (slices_stableCmpFunc_Hold (l1.length : Int) l1).bind fun x2 =>
  some x2
/-- cashbook/hold.Cover -/
noncomputable def hold_Cover (l1 : List T_api_Hold) (acc2 : Int) (cur3 : Int) (now4 : Int) (funds5 : Int) : Option ((List T_api_Covered) × Int) :=
  (hold_Check l1).bind fun x6 =>
  if (x6 != 0) = true then
    some (([] : List T_api_Covered), x6)
  else
    (hold_collect l1 acc2 cur3 now4).bind fun x7 =>
    (slices_SortStableFunc_Hold_Hold x7).bind fun x8 =>
    ((loopO (fun (qj9 : Int × (List T_api_Hold) × Int × (List T_api_Covered)) => match qj9 with
      | (left10, x11, x12, row13) => (
        if (decide (x12 < (x8.length : Int))) = true then
          (rdO x11 x12).bind fun x14 =>
          (hold_Rest x14 now4).bind fun x15 =>
          (apO 16 row13 [(⟨x14.f_ID, (if x15 < left10 then x15 else left10)⟩ : T_api_Covered)]).bind fun x16 =>
          some (.inl (IntKind.wrap .i64 (left10 - (if x15 < left10 then x15 else left10)), x11, IntKind.wrap .i64 (x12 + 1), x16))
        else
          some (.inr row13) : Option ((Int × (List T_api_Hold) × Int × (List T_api_Covered)) ⊕ (List T_api_Covered)))) ((if 0 > funds5 then 0 else funds5), x8, 0, ([] : List T_api_Covered))) : Option (List T_api_Covered)).bind fun j9 =>
    some (j9, 0)
/-- cashbook/hold.Release -/
noncomputable def hold_Release (l1 : List T_api_Hold) (id2 : Int) : Option ((List T_api_Hold) × Int) :=
  (hold_Check l1).bind fun x3 =>
  if (x3 != 0) = true then
    some (([] : List T_api_Hold), x3)
  else
    (hold_place l1 id2).bind fun x4 =>
    if (!x4.2) = true then
      some (([] : List T_api_Hold), 8)
    else
      (rdO l1 x4.1).bind fun x5 =>
      if x5.f_Done = true then
        some (([] : List T_api_Hold), 23)
      else
        (slices_Clone 64 l1).bind fun x6 =>
        (rdO x6 x4.1).bind fun x7 =>
        some ((List.set x6 (Int.toNat x4.1) (⟨x7.f_ID, x7.f_Acc, x7.f_Amount, x7.f_Rank, x7.f_Made, x7.f_Until, x7.f_Taken, true⟩ : T_api_Hold)), 0)
/-- cashbook/cashbookref25.Covered -/
noncomputable def cashbookref25_Covered (a1 : List T_api_Covered) (b2 : List T_api_Covered) : Option Bool :=
  if ((a1.length : Int) != (b2.length : Int)) = true then
    some false
  else
    ((loopO (fun (qj3 : Int) => match qj3 with
      | i4 => (
        if (decide (i4 < (a1.length : Int))) = true then
          (rdO a1 i4).bind fun x5 =>
          (rdO b2 i4).bind fun x6 =>
          if (!(T_api_Covered.same x5 x6)) = true then
            some (.inr (.inr false))
          else
            some (.inl (IntKind.wrap .i64 (i4 + 1)))
        else
          some (.inr (.inl ())) : Option (Int ⊕ (Unit ⊕ Bool)))) 0) : Option (Unit ⊕ Bool)).bind fun j3 => match j3 with
    | .inr o => some o
    | .inl _ =>
    some true
/-- cashbook/cashbooklaw25.alive -/
noncomputable def cashbooklaw25_alive : Option Bool :=
  (cashbooklaw25_one 2 0).bind fun x1 =>
  (cashbooklaw25_one 5 3).bind fun x2 =>
  (cashbooklaw25_one 3 3).bind fun x3 =>
  (hold_Add [x1, x2] x3).bind fun x4 =>
  (hold_Capture x4.1 3 (⟨0, 40⟩ : T_api_Money) 9 false).bind fun x5 =>
  (hold_Capture x5.1 3 (⟨0, 61⟩ : T_api_Money) 9 false).bind fun x6 =>
  (hold_Capture x5.1 3 (⟨0, 60⟩ : T_api_Money) 10 false).bind fun x7 =>
  (hold_Cover x5.1 1 0 0 170).bind fun x8 =>
  (hold_Sum x5.1 1 0 0 3).bind fun x9 =>
  (hold_Release x5.1 5).bind fun x10 =>
  (hold_Release x10.1 5).bind fun x11 =>
  (cashbooklaw25_one 2 0).bind fun x12 =>
  (hold_Add x4.1 x12).bind fun x13 =>
  (hold_Sum x10.1 1 0 0 0).bind fun x14 =>
  (cashbookref25_Covered x8.1 [(⟨3, 60⟩ : T_api_Covered), (⟨5, 100⟩ : T_api_Covered), (⟨2, 10⟩ : T_api_Covered)]).bind fun x15 =>
  (some ((x4.1.length : Int) != 3)).bind fun c16 =>
  if (c16 || ((x5.1.length : Int) != 3)) = true then
    some false
  else
    (some (x4.2 == 0)).bind fun c17 =>
    (gdO c17 (rdO x4.1 1) (default : T_api_Hold)).bind fun x18 =>
    (some (c17 && (x18.f_ID == 3))).bind fun c19 =>
    (some (c19 && (x5.2 == 0))).bind fun c20 =>
    (gdO c20 (rdO x5.1 1) (default : T_api_Hold)).bind fun x21 =>
    (some (c20 && (x21.f_Taken == 40))).bind fun c22 =>
    (some (c22 && (x6.2 == 17))).bind fun c23 =>
    (some (c23 && (x7.2 == 27))).bind fun c24 =>
    (some (c24 && x15)).bind fun c25 =>
    (some (c25 && (x8.2 == 0))).bind fun c26 =>
    (some (c26 && (x9.1 == 160))).bind fun c27 =>
    (some (c27 && (x9.2 == 0))).bind fun c28 =>
    (some (c28 && (x10.2 == 0))).bind fun c29 =>
    (some (c29 && (x11.2 == 23))).bind fun c30 =>
    (some (c30 && (x13.2 == 26))).bind fun c31 =>
    (some (c31 && (x14.1 == 160))).bind fun c32 =>
    (some (c32 && (x14.2 == 0))).bind fun c33 =>
    (gdO c33 (rdO x5.1 1) (default : T_api_Hold)).bind fun x34 =>
    (gdO c33 (hold_Live x34 9) (default : Bool)).bind fun x35 =>
    (some (c33 && x35)).bind fun c36 =>
    (gdO c36 (rdO x5.1 1) (default : T_api_Hold)).bind fun x37 =>
    (gdO c36 (hold_Rest x37 9) (default : Int)).bind fun x38 =>
    (some (c36 && (x38 == 60))).bind fun c39 =>
    (gdO c39 (rdO x5.1 1) (default : T_api_Hold)).bind fun x40 =>
    (gdO c39 (hold_Rest x40 10) (default : Int)).bind fun x41 =>
    (some (c39 && (x41 == 0))).bind fun c42 =>
    (gdO c42 (cashbooklaw25_one 2 0) (default : T_api_Hold)).bind fun x43 =>
    (gdO c42 (cashbooklaw25_one 2 0) (default : T_api_Hold)).bind fun x44 =>
    (gdO c42 (hold_Check [x43, x44]) (default : Int)).bind fun x45 =>
    some (c42 && (x45 == 20))
/-- cashbook/cashbooklaw25.HoldRank -/
noncomputable def cashbooklaw25_HoldRank (l1 : List T_api_Hold) (x2 : T_cashbooklaw25_Ask) : Option Bool :=
  (some (decide ((l1.length : Int) > 300))).bind fun c3 =>
  (gdO (!c3) (hold_Check l1) (default : Int)).bind fun x4 =>
  if (c3 || (x4 != 0)) = true then
    (cashbooklaw25_alive).bind fun x5 =>
    some x5
  else
    (hold_Cover l1 x2.f_Acc x2.f_Cur x2.f_Now x2.f_Funds).bind fun x6 =>
    (hold_Sum l1 x2.f_Acc x2.f_Cur x2.f_Now 0).bind fun x7 =>
    (hold_Sum l1 x2.f_Acc x2.f_Cur x2.f_Now x2.f_Rank).bind fun x8 =>
    (some (x6.2 != 0)).bind fun c9 =>
    (some (c9 || (x7.2 != 0))).bind fun c10 =>
    (some (c10 || (x8.2 != 0))).bind fun c11 =>
    (some (c11 || (decide (x8.1 > x7.1)))).bind fun c12 =>
    (some (c12 || (decide (x8.1 < 0)))).bind fun c13 =>
    (some (decide (x2.f_Rank > 9))).bind fun c14 =>
    if (c13 || (c14 && (x8.1 != 0))) = true then
      some false
    else
      ((loopO (fun (qj15 : Int × Bool × Int × Int × Int) => match qj15 with
        | (sum16, full17, rank18, id19, i20) => (
          if (decide (i20 < (x6.1.length : Int))) = true then
            ((loopO (fun (qj21 : Int × Int) => match qj21 with
              | (at_22, k23) => (
                if (decide (k23 < (l1.length : Int))) = true then
                  (rdO l1 k23).bind fun x24 =>
                  (rdO x6.1 i20).bind fun x25 =>
                  ((if (x24.f_ID == x25.f_ID) = true then
                    some k23
                  else
                    some at_22) : Option Int).bind fun j26 =>
                  some (.inl (j26, IntKind.wrap .i64 (k23 + 1)))
                else
                  some (.inr at_22) : Option ((Int × Int) ⊕ Int))) ((-1), 0)) : Option Int).bind fun j21 =>
            if (decide (j21 < 0)) = true then
              some (.inr (.inr false))
            else
              (rdO l1 j21).bind fun x29 =>
              (hold_Rest x29 x2.f_Now).bind fun x30 =>
              (hold_Live x29 x2.f_Now).bind fun x31 =>
              (some (!x31)).bind fun c32 =>
              (some (c32 || (x29.f_Acc != x2.f_Acc))).bind fun c33 =>
              (some (c33 || (x29.f_Amount.f_Cur != x2.f_Cur))).bind fun c34 =>
              (gdO (!c34) (rdO x6.1 i20) (default : T_api_Covered)).bind fun x35 =>
              (some (c34 || (decide (x35.f_Much < 0)))).bind fun c36 =>
              (gdO (!c36) (rdO x6.1 i20) (default : T_api_Covered)).bind fun x37 =>
              (some (c36 || (decide (x37.f_Much > x30)))).bind fun c38 =>
              (some (!full17)).bind fun c39 =>
              (gdO ((!c38) && c39) (rdO x6.1 i20) (default : T_api_Covered)).bind fun x40 =>
              (some (c38 || (c39 && (x40.f_Much != 0)))).bind fun c41 =>
              (some (c41 || (decide (x29.f_Rank > rank18)))).bind fun c42 =>
              (some (x29.f_Rank == rank18)).bind fun c43 =>
              if (c42 || (c43 && (decide (x29.f_ID ≤ id19)))) = true then
                some (.inr (.inr false))
              else
                (gdO full17 (rdO x6.1 i20) (default : T_api_Covered)).bind fun x44 =>
                (rdO x6.1 i20).bind fun x45 =>
                some (.inl (IntKind.wrap .i64 (sum16 + x45.f_Much), (full17 && (x44.f_Much == x30)), x29.f_Rank, x29.f_ID, IntKind.wrap .i64 (i20 + 1)))
          else
            some (.inr (.inl sum16)) : Option ((Int × Bool × Int × Int × Int) ⊕ (Int ⊕ Bool)))) (0, true, 10, 0, 0)) : Option (Int ⊕ Bool)).bind fun j15 => match j15 with
      | .inr o => some o
      | .inl sum46 =>
      ((loopO (fun (qj47 : Int × Int) => match qj47 with
        | (live48, k49) => (
          if (decide (k49 < (l1.length : Int))) = true then
            (rdO l1 k49).bind fun x50 =>
            (hold_Live x50 x2.f_Now).bind fun x51 =>
            (gdO x51 (rdO l1 k49) (default : T_api_Hold)).bind fun x52 =>
            (some (x51 && (x52.f_Acc == x2.f_Acc))).bind fun c53 =>
            (gdO c53 (rdO l1 k49) (default : T_api_Hold)).bind fun x54 =>
            ((if (c53 && (x54.f_Amount.f_Cur == x2.f_Cur)) = true then
              some (IntKind.wrap .i64 (live48 + 1))
            else
              some live48) : Option Int).bind fun j55 =>
            some (.inl (j55, IntKind.wrap .i64 (k49 + 1)))
          else
            some (.inr live48) : Option ((Int × Int) ⊕ Int))) (0, 0)) : Option Int).bind fun j47 =>
      (cashbooklaw25_alive).bind fun x58 =>
      (some (x58 && (j47 == (x6.1.length : Int)))).bind fun c59 =>
      some (c59 && (sum46 == (if x7.1 < (if 0 > x2.f_Funds then 0 else x2.f_Funds) then x7.1 else (if 0 > x2.f_Funds then 0 else x2.f_Funds))))
end Go.Av.G
