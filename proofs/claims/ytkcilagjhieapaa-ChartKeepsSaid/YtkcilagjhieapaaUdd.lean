/- What functions of the program compute, in plain words: printed by a program of ours. -/
import Derived.Test.YtkcilagjhieapaaBbri
set_option linter.unusedVariables false
set_option linter.unusedSimpArgs false
set_option maxRecDepth 100000
set_option maxHeartbeats 8000000
namespace Go.Av.G
open Go Go.Av Go.Proofs
structure T_api_Record where
  f_Acc : Int
  f_Kind : Int
  f_Cur : Int
  f_Customer : Int
  f_Product : Int
  f_Partition : Int
  f_From : Int
  f_To : Int
  deriving DecidableEq, Inhabited
def T_api_Record.pv (x : T_api_Record) : PV := .agg [.int .i64 x.f_Acc, .int .i64 x.f_Kind, .int .i64 x.f_Cur, .int .i64 x.f_Customer, .int .i64 x.f_Product, .int .i64 x.f_Partition, .int .i32 x.f_From, .int .i32 x.f_To]
theorem T_api_Record.pv_inj (x y : T_api_Record) : x.pv = y.pv ↔ x = y := by
  constructor
  · intro h; rcases x with ⟨_, _, _, _, _, _, _, _⟩; rcases y with ⟨_, _, _, _, _, _, _, _⟩; simp [T_api_Record.pv, eInt_maps, eBool_maps, eStr_maps] at h; simp [h]
  · rintro rfl; rfl
theorem T_api_Record.pv_maps (l m : List T_api_Record) : l.map T_api_Record.pv = m.map T_api_Record.pv ↔ l = m := List.map_inj_right (fun x y h => (T_api_Record.pv_inj x y).1 h)
def T_api_Record.same (x y : T_api_Record) : Bool := ((x.f_Acc == y.f_Acc) && ((x.f_Kind == y.f_Kind) && ((x.f_Cur == y.f_Cur) && ((x.f_Customer == y.f_Customer) && ((x.f_Product == y.f_Product) && ((x.f_Partition == y.f_Partition) && ((x.f_From == y.f_From) && ((x.f_To == y.f_To) && true))))))))
theorem T_api_Record.same_iff (x y : T_api_Record) : T_api_Record.same x y = decide (x = y) := by
  rw [Bool.eq_iff_iff]; rcases x with ⟨_, _, _, _, _, _, _, _⟩; rcases y with ⟨_, _, _, _, _, _, _, _⟩; simp [T_api_Record.same, T_api_Record.mk.injEq, and_assoc]
def T_api_Record.tt : TT := .struct (.field (.int .i64) (.field (.int .i64) (.field (.int .i64) (.field (.int .i64) (.field (.int .i64) (.field (.int .i64) (.field (.int .i32) (.field (.int .i32) .unit))))))))
def T_api_Record.wf (x : T_api_Record) : Prop := inR .i64 x.f_Acc ∧ inR .i64 x.f_Kind ∧ inR .i64 x.f_Cur ∧ inR .i64 x.f_Customer ∧ inR .i64 x.f_Product ∧ inR .i64 x.f_Partition ∧ inR .i32 x.f_From ∧ inR .i32 x.f_To
theorem T_api_Record.of {xs : List PV} (hh : T_api_Record.tt.Of xs) : ∃ x : T_api_Record, x.wf ∧ T_api_Record.tt.pack xs = T_api_Record.pv x := by
  obtain ⟨a0, b0, rfl, h0, hh⟩ := hh
  obtain ⟨a1, b1, rfl, h1, hh⟩ := hh
  obtain ⟨a2, b2, rfl, h2, hh⟩ := hh
  obtain ⟨a3, b3, rfl, h3, hh⟩ := hh
  obtain ⟨a4, b4, rfl, h4, hh⟩ := hh
  obtain ⟨a5, b5, rfl, h5, hh⟩ := hh
  obtain ⟨a6, b6, rfl, h6, hh⟩ := hh
  obtain ⟨a7, b7, rfl, h7, hh⟩ := hh
  obtain rfl : _ = [] := hh
  obtain ⟨n0, rfl, w0⟩ := h0
  obtain ⟨n1, rfl, w1⟩ := h1
  obtain ⟨n2, rfl, w2⟩ := h2
  obtain ⟨n3, rfl, w3⟩ := h3
  obtain ⟨n4, rfl, w4⟩ := h4
  obtain ⟨n5, rfl, w5⟩ := h5
  obtain ⟨n6, rfl, w6⟩ := h6
  obtain ⟨n7, rfl, w7⟩ := h7
  exact ⟨⟨n0, n1, n2, n3, n4, n5, n6, n7⟩, ⟨w0, w1, w2, w3, w4, w5, w6, w7⟩, rfl⟩
structure T_cashbooklaw18_Step where
  f_What : Int
  f_ID : Int
  f_Rec : T_api_Record
  f_Day : Int
  deriving DecidableEq, Inhabited
def T_cashbooklaw18_Step.pv (x : T_cashbooklaw18_Step) : PV := .agg [.int .i64 x.f_What, .int .i64 x.f_ID, .int .i64 x.f_Rec.f_Acc, .int .i64 x.f_Rec.f_Kind, .int .i64 x.f_Rec.f_Cur, .int .i64 x.f_Rec.f_Customer, .int .i64 x.f_Rec.f_Product, .int .i64 x.f_Rec.f_Partition, .int .i32 x.f_Rec.f_From, .int .i32 x.f_Rec.f_To, .int .i32 x.f_Day]
theorem T_cashbooklaw18_Step.pv_inj (x y : T_cashbooklaw18_Step) : x.pv = y.pv ↔ x = y := by
  constructor
  · intro h; rcases x with ⟨_, _, ⟨_, _, _, _, _, _, _, _⟩, _⟩; rcases y with ⟨_, _, ⟨_, _, _, _, _, _, _, _⟩, _⟩; simp [T_cashbooklaw18_Step.pv, eInt_maps, eBool_maps, eStr_maps, T_api_Record.pv_maps] at h; simp [h]
  · rintro rfl; rfl
theorem T_cashbooklaw18_Step.pv_maps (l m : List T_cashbooklaw18_Step) : l.map T_cashbooklaw18_Step.pv = m.map T_cashbooklaw18_Step.pv ↔ l = m := List.map_inj_right (fun x y h => (T_cashbooklaw18_Step.pv_inj x y).1 h)
def T_cashbooklaw18_Step.same (x y : T_cashbooklaw18_Step) : Bool := ((x.f_What == y.f_What) && ((x.f_ID == y.f_ID) && ((x.f_Rec.f_Acc == y.f_Rec.f_Acc) && ((x.f_Rec.f_Kind == y.f_Rec.f_Kind) && ((x.f_Rec.f_Cur == y.f_Rec.f_Cur) && ((x.f_Rec.f_Customer == y.f_Rec.f_Customer) && ((x.f_Rec.f_Product == y.f_Rec.f_Product) && ((x.f_Rec.f_Partition == y.f_Rec.f_Partition) && ((x.f_Rec.f_From == y.f_Rec.f_From) && ((x.f_Rec.f_To == y.f_Rec.f_To) && ((x.f_Day == y.f_Day) && true)))))))))))
theorem T_cashbooklaw18_Step.same_iff (x y : T_cashbooklaw18_Step) : T_cashbooklaw18_Step.same x y = decide (x = y) := by
  rw [Bool.eq_iff_iff]; rcases x with ⟨_, _, ⟨_, _, _, _, _, _, _, _⟩, _⟩; rcases y with ⟨_, _, ⟨_, _, _, _, _, _, _, _⟩, _⟩; simp [T_cashbooklaw18_Step.same, T_cashbooklaw18_Step.mk.injEq, T_api_Record.mk.injEq, and_assoc]
def T_cashbooklaw18_Step.tt : TT := .struct (.field (.int .i64) (.field (.int .i64) (.field T_api_Record.tt (.field (.int .i32) .unit))))
def T_cashbooklaw18_Step.wf (x : T_cashbooklaw18_Step) : Prop := inR .i64 x.f_What ∧ inR .i64 x.f_ID ∧ T_api_Record.wf x.f_Rec ∧ inR .i32 x.f_Day
theorem T_cashbooklaw18_Step.of {xs : List PV} (hh : T_cashbooklaw18_Step.tt.Of xs) : ∃ x : T_cashbooklaw18_Step, x.wf ∧ T_cashbooklaw18_Step.tt.pack xs = T_cashbooklaw18_Step.pv x := by
  obtain ⟨a0, b0, rfl, h0, hh⟩ := hh
  obtain ⟨a1, b1, rfl, h1, hh⟩ := hh
  obtain ⟨a2, b2, rfl, h2, hh⟩ := hh
  obtain ⟨a3, b3, rfl, h3, hh⟩ := hh
  obtain rfl : _ = [] := hh
  obtain ⟨n0, rfl, w0⟩ := h0
  obtain ⟨n1, rfl, w1⟩ := h1
  obtain ⟨n2, w2, e2⟩ := T_api_Record.of h2
  obtain rfl := PV.agg.inj e2
  obtain ⟨n3, rfl, w3⟩ := h3
  exact ⟨⟨n0, n1, n2, n3⟩, ⟨w0, w1, w2, w3⟩, rfl⟩
structure T_api_Customer where
  f_ID : Int
  f_Name : List UInt8
  f_Kind : Int
  deriving DecidableEq, Inhabited
def T_api_Customer.pv (x : T_api_Customer) : PV := .agg [.int .i64 x.f_ID, .str x.f_Name, .int .i64 x.f_Kind]
theorem T_api_Customer.pv_inj (x y : T_api_Customer) : x.pv = y.pv ↔ x = y := by
  constructor
  · intro h; rcases x with ⟨_, _, _⟩; rcases y with ⟨_, _, _⟩; simp [T_api_Customer.pv, eInt_maps, eBool_maps, eStr_maps, T_api_Record.pv_maps, T_cashbooklaw18_Step.pv_maps] at h; simp [h]
  · rintro rfl; rfl
theorem T_api_Customer.pv_maps (l m : List T_api_Customer) : l.map T_api_Customer.pv = m.map T_api_Customer.pv ↔ l = m := List.map_inj_right (fun x y h => (T_api_Customer.pv_inj x y).1 h)
def T_api_Customer.same (x y : T_api_Customer) : Bool := ((x.f_ID == y.f_ID) && ((x.f_Name == y.f_Name) && ((x.f_Kind == y.f_Kind) && true)))
theorem T_api_Customer.same_iff (x y : T_api_Customer) : T_api_Customer.same x y = decide (x = y) := by
  rw [Bool.eq_iff_iff]; rcases x with ⟨_, _, _⟩; rcases y with ⟨_, _, _⟩; simp [T_api_Customer.same, T_api_Customer.mk.injEq, and_assoc]
def T_api_Customer.tt : TT := .struct (.field (.int .i64) (.field .str (.field (.int .i64) .unit)))
def T_api_Customer.wf (x : T_api_Customer) : Prop := inR .i64 x.f_ID ∧ x.f_Name.length ≤ maxLen ∧ inR .i64 x.f_Kind
theorem T_api_Customer.of {xs : List PV} (hh : T_api_Customer.tt.Of xs) : ∃ x : T_api_Customer, x.wf ∧ T_api_Customer.tt.pack xs = T_api_Customer.pv x := by
  obtain ⟨a0, b0, rfl, h0, hh⟩ := hh
  obtain ⟨a1, b1, rfl, h1, hh⟩ := hh
  obtain ⟨a2, b2, rfl, h2, hh⟩ := hh
  obtain rfl : _ = [] := hh
  obtain ⟨n0, rfl, w0⟩ := h0
  obtain ⟨n1, rfl, w1⟩ := h1
  obtain ⟨n2, rfl, w2⟩ := h2
  exact ⟨⟨n0, n1, n2⟩, ⟨w0, w1, w2⟩, rfl⟩
structure T_api_Chart where
  f_Customers : List T_api_Customer
  f_Records : List T_api_Record
  deriving DecidableEq, Inhabited
def T_api_Chart.pv (x : T_api_Chart) : PV := .agg [.slice (List.map T_api_Customer.pv x.f_Customers), .slice (List.map T_api_Record.pv x.f_Records)]
theorem T_api_Chart.pv_inj (x y : T_api_Chart) : x.pv = y.pv ↔ x = y := by
  constructor
  · intro h; rcases x with ⟨_, _⟩; rcases y with ⟨_, _⟩; simp [T_api_Chart.pv, eInt_maps, eBool_maps, eStr_maps, T_api_Record.pv_maps, T_cashbooklaw18_Step.pv_maps, T_api_Customer.pv_maps] at h; simp [h]
  · rintro rfl; rfl
theorem T_api_Chart.pv_maps (l m : List T_api_Chart) : l.map T_api_Chart.pv = m.map T_api_Chart.pv ↔ l = m := List.map_inj_right (fun x y h => (T_api_Chart.pv_inj x y).1 h)
def T_api_Chart.tt : TT := .struct (.field (.slice T_api_Customer.tt) (.field (.slice T_api_Record.tt) .unit))
def T_api_Chart.wf (x : T_api_Chart) : Prop := (x.f_Customers.length ≤ maxLen ∧ ∀ x' ∈ x.f_Customers, T_api_Customer.wf x') ∧ (x.f_Records.length ≤ maxLen ∧ ∀ x' ∈ x.f_Records, T_api_Record.wf x')
theorem T_api_Chart.of {xs : List PV} (hh : T_api_Chart.tt.Of xs) : ∃ x : T_api_Chart, x.wf ∧ T_api_Chart.tt.pack xs = T_api_Chart.pv x := by
  obtain ⟨a0, b0, rfl, h0, hh⟩ := hh
  obtain ⟨a1, b1, rfl, h1, hh⟩ := hh
  obtain rfl : _ = [] := hh
  obtain ⟨n0, w0, rfl⟩ := of_slice (f := T_api_Customer.pv) (wf := T_api_Customer.wf) (fun xs h => T_api_Customer.of h) h0
  obtain ⟨n1, w1, rfl⟩ := of_slice (f := T_api_Record.pv) (wf := T_api_Record.wf) (fun xs h => T_api_Record.of h) h1
  exact ⟨⟨n0, n1⟩, ⟨w0, w1⟩, rfl⟩
/-- cashbook/chart.idOf -/
def chart_idOf (x1 : T_api_Customer) : Option Int :=
  some x1.f_ID
/-- cashbook/chart.rises[cashbook/api.Customer,int] -/
noncomputable def chart_rises_Customer_int (l1 : List T_api_Customer) : Option Bool :=
  ((loopO (fun (qj2 : Int) => match qj2 with
    | i3 => (
      if (decide (i3 < (l1.length : Int))) = true then
        (rdO l1 (IntKind.wrap .i64 (i3 - 1))).bind fun x4 =>
        (chart_idOf x4).bind fun x5 =>
        (rdO l1 i3).bind fun x6 =>
        (chart_idOf x6).bind fun x7 =>
        if (decide (x5 ≥ x7)) = true then
          some (.inr (.inr false))
        else
          some (.inl (IntKind.wrap .i64 (i3 + 1)))
      else
        some (.inr (.inl ())) : Option (Int ⊕ (Unit ⊕ Bool)))) 1) : Option (Unit ⊕ Bool)).bind fun j2 => match j2 with
  | .inr o => some o
  | .inl _ =>
  some true
/-- cashbook/chart.accOf -/
def chart_accOf (r1 : T_api_Record) : Option Int :=
  some r1.f_Acc
/-- cashbook/chart.rises[cashbook/api.Record,cashbook/api.Account] -/
noncomputable def chart_rises_Record_Account (l1 : List T_api_Record) : Option Bool :=
  ((loopO (fun (qj2 : Int) => match qj2 with
    | i3 => (
      if (decide (i3 < (l1.length : Int))) = true then
        (rdO l1 (IntKind.wrap .i64 (i3 - 1))).bind fun x4 =>
        (chart_accOf x4).bind fun x5 =>
        (rdO l1 i3).bind fun x6 =>
        (chart_accOf x6).bind fun x7 =>
        if (decide (x5 ≥ x7)) = true then
          some (.inr (.inr false))
        else
          some (.inl (IntKind.wrap .i64 (i3 + 1)))
      else
        some (.inr (.inl ())) : Option (Int ⊕ (Unit ⊕ Bool)))) 1) : Option (Unit ⊕ Bool)).bind fun j2 => match j2 with
  | .inr o => some o
  | .inl _ =>
  some true
/-- cashbook/chart.in[int] -/
def chart_in_int (n1 : Int) (low2 : Int) (high3 : Int) : Option Bool :=
  (some (decide (n1 ≥ low2))).bind fun c4 =>
  some (c4 && (decide (n1 ≤ high3)))
/-- cashbook/chart.isCustomer$1 -/
def chart_isCustomer_1 (r1 : Int) : Option Bool :=
  (some (decide (r1 < 32))).bind fun c2 =>
  some (c2 || (decide (r1 > 126)))
/-- cashbook/chart.isCustomer -/
noncomputable def chart_isCustomer (x1 : T_api_Customer) : Option Bool :=
  (chart_in_int x1.f_ID 1 999).bind fun x2 =>
  (gdO x2 (chart_in_int (x1.f_Name.length : Int) 1 32) (default : Bool)).bind fun x3 =>
  (some (x2 && x3)).bind fun c4 =>
  (gdO c4 (strings_ContainsFunc chart_isCustomer_1 x1.f_Name) (default : Bool)).bind fun x5 =>
  (some (c4 && (!x5))).bind fun c6 =>
  (gdO c6 (chart_in_int x1.f_Kind 0 3) (default : Bool)).bind fun x7 =>
  some (c6 && x7)
/-- cashbook/chart.Right$1 -/
noncomputable def chart_Right_1 (x1 : T_api_Customer) : Option Bool :=
  (chart_isCustomer x1).bind fun x2 =>
  some (!x2)
/-- slices.IndexFunc[[]cashbook/api.Customer,cashbook/api.Customer] -/
noncomputable def slices_IndexFunc_Customer_Customer (s1 : List T_api_Customer) : Option Int :=
  ((loopO (fun (qj2 : Int) => match qj2 with
    | x3 => (
      if (decide (x3 < (s1.length : Int))) = true then
        (rdO s1 x3).bind fun x4 =>
        (chart_Right_1 x4).bind fun x5 =>
        if x5 = true then
          some (.inr (.inr x3))
        else
          some (.inl (IntKind.wrap .i64 (x3 + 1)))
      else
        some (.inr (.inl ())) : Option (Int ⊕ (Unit ⊕ Int)))) 0) : Option (Unit ⊕ Int)).bind fun j2 => match j2 with
  | .inr o => some o
  | .inl _ =>
  some (-1)
/-- slices.ContainsFunc[[]cashbook/api.Customer,cashbook/api.Customer] -/
noncomputable def slices_ContainsFunc_Customer_Customer (s1 : List T_api_Customer) : Option Bool :=
  (slices_IndexFunc_Customer_Customer s1).bind fun x2 =>
  some (decide (x2 ≥ 0))
/-- cmp.isNaN[int] -/
def cmp_isNaN_int (x1 : Int) : Option Bool :=
  some (x1 != x1)
/-- cmp.Compare[int] -/
def cmp_Compare_int (x1 : Int) (y2 : Int) : Option Int :=
  (cmp_isNaN_int x1).bind fun x3 =>
  (cmp_isNaN_int y2).bind fun x4 =>
  if x3 = true then
    if x4 = true then
      some 0
    else
      some (-1)
  else
    if x4 = true then
      some 1
    else
      if (decide (x1 < y2)) = true then
        some (-1)
      else
        if (decide (x1 > y2)) = true then
          some 1
        else
          some 0
/-- cashbook/chart.place[cashbook/api.Customer,int]$1 -/
def chart_place_Customer_int_1 (x1 : T_api_Customer) (n2 : Int) : Option Int :=
  (chart_idOf x1).bind fun x3 =>
  (cmp_Compare_int x3 n2).bind fun x4 =>
  some x4
/-- slices.BinarySearchFunc[[]cashbook/api.Customer,cashbook/api.Customer,int] -/
noncomputable def slices_BinarySearchFunc_Customer_Customer_int (x1 : List T_api_Customer) (target2 : Int) : Option (Int × Bool) :=
  ((loopO (fun (qj3 : Int × Int) => match qj3 with
    | (i4, j5) => (
      if (decide (i4 < j5)) = true then
        (rdO x1 (IntKind.wrap .i64 (Int.fdiv (IntKind.wrap .u64 (IntKind.wrap .i64 (i4 + j5))) 2))).bind fun x6 =>
        (chart_place_Customer_int_1 x6 target2).bind fun x7 =>
        if (decide (x7 < 0)) = true then
          some (.inl (IntKind.wrap .i64 ((IntKind.wrap .i64 (Int.fdiv (IntKind.wrap .u64 (IntKind.wrap .i64 (i4 + j5))) 2)) + 1), j5))
        else
          some (.inl (i4, IntKind.wrap .i64 (Int.fdiv (IntKind.wrap .u64 (IntKind.wrap .i64 (i4 + j5))) 2)))
      else
        some (.inr i4) : Option ((Int × Int) ⊕ Int))) (0, (x1.length : Int))) : Option Int).bind fun j3 =>
  (some (decide (j3 < (x1.length : Int)))).bind fun c9 =>
  (gdO c9 (rdO x1 j3) (default : T_api_Customer)).bind fun x10 =>
  (gdO c9 (chart_place_Customer_int_1 x10 target2) (default : Int)).bind fun x11 =>
  some (j3, (c9 && (x11 == 0)))
/-- cashbook/chart.place[cashbook/api.Customer,int] -/
noncomputable def chart_place_Customer_int (l1 : List T_api_Customer) (n2 : Int) : Option (Int × Bool) :=
  (slices_BinarySearchFunc_Customer_Customer_int l1 n2).bind fun x3 =>
  some (x3.1, x3.2)
/-- cashbook/chart.in[cashbook/api.Account] -/
def chart_in_Account (n1 : Int) (low2 : Int) (high3 : Int) : Option Bool :=
  (some (decide (n1 ≥ low2))).bind fun c4 =>
  some (c4 && (decide (n1 ≤ high3)))
/-- cashbook/chart.in[cashbook/api.Currency] -/
def chart_in_Currency (n1 : Int) (low2 : Int) (high3 : Int) : Option Bool :=
  (some (decide (n1 ≥ low2))).bind fun c4 =>
  some (c4 && (decide (n1 ≤ high3)))
/-- cashbook/date.Right -/
def date_Right (d1 : Int) : Option Bool :=
  (some (decide (d1 ≥ (-50000)))).bind fun c2 =>
  some (c2 && (decide (d1 ≤ 50000)))
/-- cashbook/chart.isRecord -/
def chart_isRecord (r1 : T_api_Record) : Option Bool :=
  (chart_in_Account r1.f_Acc 1 999).bind fun x2 =>
  (some (!x2)).bind fun c3 =>
  (gdO (!c3) (chart_in_int r1.f_Kind 0 3) (default : Bool)).bind fun x4 =>
  (some (c3 || (!x4))).bind fun c5 =>
  (gdO (!c5) (chart_in_Currency r1.f_Cur 0 3) (default : Bool)).bind fun x6 =>
  (some (c5 || (!x6))).bind fun c7 =>
  (gdO (!c7) (chart_in_int r1.f_Customer 0 999) (default : Bool)).bind fun x8 =>
  if (c7 || (!x8)) = true then
    some false
  else
    (some (decide (r1.f_Kind ≥ 2))).bind fun c9 =>
    (some (r1.f_Customer != 0)).bind fun c10 =>
    if (c9 && (c10 || (r1.f_Product != 0))) = true then
      some false
    else
      (chart_in_int r1.f_Product 0 20).bind fun x11 =>
      (gdO x11 (chart_in_int r1.f_Partition 0 3) (default : Bool)).bind fun x12 =>
      (some (x11 && x12)).bind fun c13 =>
      (gdO c13 (date_Right r1.f_From) (default : Bool)).bind fun x14 =>
      (some (c13 && x14)).bind fun c15 =>
      (gdO c15 (date_Right r1.f_To) (default : Bool)).bind fun x16 =>
      (some (c15 && x16)).bind fun c17 =>
      some (c17 && (decide (r1.f_From ≤ r1.f_To)))
/-- cashbook/chart.Right$2 -/
noncomputable def chart_Right_2 (r1 : T_api_Record) (e2 : T_api_Chart) : Option Bool :=
  (chart_place_Customer_int e2.f_Customers r1.f_Customer).bind fun x3 =>
  (chart_isRecord r1).bind fun x4 =>
  (some (!x4)).bind fun c5 =>
  (some (decide (r1.f_Customer > 0))).bind fun c6 =>
  some (c5 || (c6 && (!x3.2)))
/-- slices.IndexFunc[[]cashbook/api.Record,cashbook/api.Record] -/
noncomputable def slices_IndexFunc_Record_Record (s1 : List T_api_Record) (e2 : T_api_Chart) : Option Int :=
  ((loopO (fun (qj3 : Int) => match qj3 with
    | x4 => (
      if (decide (x4 < (s1.length : Int))) = true then
        (rdO s1 x4).bind fun x5 =>
        (chart_Right_2 x5 e2).bind fun x6 =>
        if x6 = true then
          some (.inr (.inr x4))
        else
          some (.inl (IntKind.wrap .i64 (x4 + 1)))
      else
        some (.inr (.inl ())) : Option (Int ⊕ (Unit ⊕ Int)))) 0) : Option (Unit ⊕ Int)).bind fun j3 => match j3 with
  | .inr o => some o
  | .inl _ =>
  some (-1)
/-- slices.ContainsFunc[[]cashbook/api.Record,cashbook/api.Record] -/
noncomputable def slices_ContainsFunc_Record_Record (s1 : List T_api_Record) (e2 : T_api_Chart) : Option Bool :=
  (slices_IndexFunc_Record_Record s1 e2).bind fun x3 =>
  some (decide (x3 ≥ 0))
/-- cashbook/chart.Right -/
noncomputable def chart_Right (c1 : T_api_Chart) : Option Bool :=
  (some (decide ((c1.f_Customers.length : Int) > 100))).bind fun c2 =>
  (some (c2 || (decide ((c1.f_Records.length : Int) > 200)))).bind fun c3 =>
  (gdO (!c3) (chart_rises_Customer_int c1.f_Customers) (default : Bool)).bind fun x4 =>
  (some (c3 || (!x4))).bind fun c5 =>
  (gdO (!c5) (chart_rises_Record_Account c1.f_Records) (default : Bool)).bind fun x6 =>
  if (c5 || (!x6)) = true then
    some false
  else
    (slices_ContainsFunc_Customer_Customer c1.f_Customers).bind fun x7 =>
    if x7 = true then
      some false
    else
      (slices_ContainsFunc_Record_Record c1.f_Records c1).bind fun x8 =>
      some (!x8)
/-- cashbook/chart.Join -/
noncomputable def chart_Join (c1 : T_api_Chart) (x2 : T_api_Customer) : Option (T_api_Chart × Int) :=
  (chart_Right c1).bind fun x3 =>
  (some (!x3)).bind fun c4 =>
  (gdO (!c4) (chart_isCustomer x2) (default : Bool)).bind fun x5 =>
  if (c4 || (!x5)) = true then
    some ((⟨([] : List T_api_Customer), ([] : List T_api_Record)⟩ : T_api_Chart), 1)
  else
    (chart_place_Customer_int c1.f_Customers x2.f_ID).bind fun x6 =>
    if x6.2 = true then
      some ((⟨([] : List T_api_Customer), ([] : List T_api_Record)⟩ : T_api_Chart), 26)
    else
      if ((c1.f_Customers.length : Int) == 100) = true then
        some ((⟨([] : List T_api_Customer), ([] : List T_api_Record)⟩ : T_api_Chart), 6)
      else
        (slices_Clone 32 c1.f_Customers).bind fun x7 =>
        (insO 32 x7 x6.1 x2).bind fun x8 =>
        (slices_Clone 56 c1.f_Records).bind fun x9 =>
        some ((⟨x8, x9⟩ : T_api_Chart), 0)
/-- cmp.isNaN[cashbook/api.Account] -/
def cmp_isNaN_Account (x1 : Int) : Option Bool :=
  some (x1 != x1)
/-- cmp.Compare[cashbook/api.Account] -/
def cmp_Compare_Account (x1 : Int) (y2 : Int) : Option Int :=
  (cmp_isNaN_Account x1).bind fun x3 =>
  (cmp_isNaN_Account y2).bind fun x4 =>
  if x3 = true then
    if x4 = true then
      some 0
    else
      some (-1)
  else
    if x4 = true then
      some 1
    else
      if (decide (x1 < y2)) = true then
        some (-1)
      else
        if (decide (x1 > y2)) = true then
          some 1
        else
          some 0
/-- cashbook/chart.place[cashbook/api.Record,cashbook/api.Account]$1 -/
def chart_place_Record_Account_1 (x1 : T_api_Record) (n2 : Int) : Option Int :=
  (chart_accOf x1).bind fun x3 =>
  (cmp_Compare_Account x3 n2).bind fun x4 =>
  some x4
/-- slices.BinarySearchFunc[[]cashbook/api.Record,cashbook/api.Record,cashbook/api.Account] -/
noncomputable def slices_BinarySearchFunc_Record_Record_Account (x1 : List T_api_Record) (target2 : Int) : Option (Int × Bool) :=
  ((loopO (fun (qj3 : Int × Int) => match qj3 with
    | (i4, j5) => (
      if (decide (i4 < j5)) = true then
        (rdO x1 (IntKind.wrap .i64 (Int.fdiv (IntKind.wrap .u64 (IntKind.wrap .i64 (i4 + j5))) 2))).bind fun x6 =>
        (chart_place_Record_Account_1 x6 target2).bind fun x7 =>
        if (decide (x7 < 0)) = true then
          some (.inl (IntKind.wrap .i64 ((IntKind.wrap .i64 (Int.fdiv (IntKind.wrap .u64 (IntKind.wrap .i64 (i4 + j5))) 2)) + 1), j5))
        else
          some (.inl (i4, IntKind.wrap .i64 (Int.fdiv (IntKind.wrap .u64 (IntKind.wrap .i64 (i4 + j5))) 2)))
      else
        some (.inr i4) : Option ((Int × Int) ⊕ Int))) (0, (x1.length : Int))) : Option Int).bind fun j3 =>
  (some (decide (j3 < (x1.length : Int)))).bind fun c9 =>
  (gdO c9 (rdO x1 j3) (default : T_api_Record)).bind fun x10 =>
  (gdO c9 (chart_place_Record_Account_1 x10 target2) (default : Int)).bind fun x11 =>
  some (j3, (c9 && (x11 == 0)))
/-- cashbook/chart.place[cashbook/api.Record,cashbook/api.Account] -/
noncomputable def chart_place_Record_Account (l1 : List T_api_Record) (n2 : Int) : Option (Int × Bool) :=
  (slices_BinarySearchFunc_Record_Record_Account l1 n2).bind fun x3 =>
  some (x3.1, x3.2)
/-- cashbook/chart.Find -/
noncomputable def chart_Find (c1 : T_api_Chart) (a2 : Int) : Option (T_api_Record × Int) :=
  (chart_Right c1).bind fun x3 =>
  if (!x3) = true then
    some ((⟨0, 0, 0, 0, 0, 0, 0, 0⟩ : T_api_Record), 1)
  else
    (chart_place_Record_Account c1.f_Records a2).bind fun x4 =>
    if (!x4.2) = true then
      some ((⟨0, 0, 0, 0, 0, 0, 0, 0⟩ : T_api_Record), 8)
    else
      (rdO c1.f_Records x4.1).bind fun x5 =>
      some (x5, 0)
/-- cashbook/chart.Close -/
noncomputable def chart_Close (c1 : T_api_Chart) (a2 : Int) (day3 : Int) : Option (T_api_Chart × Int) :=
  (chart_Find c1 a2).bind fun x4 =>
  if (x4.2 != 0) = true then
    some ((⟨([] : List T_api_Customer), ([] : List T_api_Record)⟩ : T_api_Chart), x4.2)
  else
    if (x4.1.f_To != 50000) = true then
      some ((⟨([] : List T_api_Customer), ([] : List T_api_Record)⟩ : T_api_Chart), 16)
    else
      (date_Right day3).bind fun x5 =>
      (some (!x5)).bind fun c6 =>
      if (c6 || (decide (day3 < x4.1.f_From))) = true then
        some ((⟨([] : List T_api_Customer), ([] : List T_api_Record)⟩ : T_api_Chart), 11)
      else
        (chart_place_Record_Account c1.f_Records a2).bind fun x7 =>
        (slices_Clone 32 c1.f_Customers).bind fun x8 =>
        (slices_Clone 56 c1.f_Records).bind fun x9 =>
        (rdO x9 x7.1).bind fun x10 =>
        some ((⟨x8, (List.set x9 (Int.toNat x7.1) (⟨x10.f_Acc, x10.f_Kind, x10.f_Cur, x10.f_Customer, x10.f_Product, x10.f_Partition, x10.f_From, day3⟩ : T_api_Record))⟩ : T_api_Chart), 0)
/-- cashbook/chart.Open -/
noncomputable def chart_Open (c1 : T_api_Chart) (r2 : T_api_Record) : Option (T_api_Chart × Int) :=
  (chart_Right c1).bind fun x3 =>
  (some (!x3)).bind fun c4 =>
  (gdO (!c4) (chart_isRecord (⟨r2.f_Acc, r2.f_Kind, r2.f_Cur, r2.f_Customer, r2.f_Product, r2.f_Partition, r2.f_From, 50000⟩ : T_api_Record)) (default : Bool)).bind fun x5 =>
  if (c4 || (!x5)) = true then
    some ((⟨([] : List T_api_Customer), ([] : List T_api_Record)⟩ : T_api_Chart), 1)
  else
    (chart_place_Customer_int c1.f_Customers r2.f_Customer).bind fun x6 =>
    (chart_place_Record_Account c1.f_Records r2.f_Acc).bind fun x7 =>
    (some (decide (r2.f_Customer > 0))).bind fun c8 =>
    if (c8 && (!x6.2)) = true then
      some ((⟨([] : List T_api_Customer), ([] : List T_api_Record)⟩ : T_api_Chart), 8)
    else
      if x7.2 = true then
        some ((⟨([] : List T_api_Customer), ([] : List T_api_Record)⟩ : T_api_Chart), 26)
      else
        if ((c1.f_Records.length : Int) == 200) = true then
          some ((⟨([] : List T_api_Customer), ([] : List T_api_Record)⟩ : T_api_Chart), 6)
        else
          (slices_Clone 32 c1.f_Customers).bind fun x9 =>
          (slices_Clone 56 c1.f_Records).bind fun x10 =>
          (insO 56 x10 x7.1 (⟨r2.f_Acc, r2.f_Kind, r2.f_Cur, r2.f_Customer, r2.f_Product, r2.f_Partition, r2.f_From, 50000⟩ : T_api_Record)).bind fun x11 =>
          some ((⟨x9, x11⟩ : T_api_Chart), 0)
/-- cashbook/chart.in[cashbook/api.Date] -/
def chart_in_Date (n1 : Int) (low2 : Int) (high3 : Int) : Option Bool :=
  (some (decide (n1 ≥ low2))).bind fun c4 =>
  some (c4 && (decide (n1 ≤ high3)))
/-- cashbook/chart.Is -/
noncomputable def chart_Is (c1 : T_api_Chart) (a2 : Int) (day3 : Int) : Option (Bool × Int) :=
  (chart_Find c1 a2).bind fun x4 =>
  if (x4.2 != 0) = true then
    some (false, x4.2)
  else
    (date_Right day3).bind fun x5 =>
    if (!x5) = true then
      some (false, 11)
    else
      (chart_in_Date day3 x4.1.f_From x4.1.f_To).bind fun x6 =>
      some (x6, 0)
/-- cashbook/cashbooklaw18.alive -/
noncomputable def cashbooklaw18_alive : Option Bool :=
  (chart_Open (⟨([] : List T_api_Customer), ([] : List T_api_Record)⟩ : T_api_Chart) (⟨5, 0, 0, 0, 0, 0, 10, 0⟩ : T_api_Record)).bind fun x1 =>
  (chart_Close x1.1 5 20).bind fun x2 =>
  (chart_Is x2.1 5 20).bind fun x3 =>
  (chart_Is x2.1 5 21).bind fun x4 =>
  (some (x1.2 == 0)).bind fun c5 =>
  (some (c5 && (x2.2 == 0))).bind fun c6 =>
  (some (c6 && (x3.2 == 0))).bind fun c7 =>
  (some (c7 && (x4.2 == 0))).bind fun c8 =>
  (some (c8 && x3.1)).bind fun c9 =>
  some (c9 && (!x4.1))
/-- cashbook/cashbooklaw18.ChartKeeps -/
noncomputable def cashbooklaw18_ChartKeeps (steps1 : List T_cashbooklaw18_Step) (day2 : Int) : Option Bool :=
  (slO steps1 0 (if 60 < (steps1.length : Int) then 60 else (steps1.length : Int))).bind fun x3 =>
  ((loopO (fun (qj4 : Int × T_api_Chart × (List (Int × T_api_Record)) × (List (Int × Int)) × (List (Int × Int))) => match qj4 with
    | (x5, c6, m7, m8, m9) => (
      if (decide (x5 < (x3.length : Int))) = true then
        (rdO x3 x5).bind fun x10 =>
        ((if ((Int.tmod (IntKind.wrap .i64 ((Int.tmod x10.f_What 4) + 4)) 4) == 0) = true then
          (chart_Join c6 (⟨x10.f_ID, [120], 0⟩ : T_api_Customer)).bind fun x12 =>
          (some (!((x12.2 == 26) == (decide (((mget m9 x10.f_ID).getD (0 : Int)) > 0))))).bind fun c13 =>
          (some (x12.2 == 1)).bind fun c14 =>
          (some (c14 && (decide (x10.f_ID ≥ 1)))).bind fun c15 =>
          if (c13 || (c15 && (decide (x10.f_ID ≤ 999)))) = true then
            some (.inr (.inr (.inr false)))
          else
            if (x12.2 == 0) = true then
              some (.inl (x12.1, m7, m8, (mset m9 x10.f_ID (IntKind.wrap .i64 (((mget m9 x10.f_ID).getD (0 : Int)) + 1)))))
            else
              some (.inl (c6, m7, m8, m9))
        else
          if ((Int.tmod (IntKind.wrap .i64 ((Int.tmod x10.f_What 4) + 4)) 4) == 3) = true then
            (chart_Close c6 x10.f_Rec.f_Acc x10.f_Day).bind fun x16 =>
            (some (!((x16.2 == 8) == (!((mget m7 x10.f_Rec.f_Acc).isSome))))).bind fun c17 =>
            (some (x16.2 == 16)).bind fun c18 =>
            (some (c17 || (c18 && (!((mget m8 x10.f_Rec.f_Acc).isSome))))).bind fun c19 =>
            (some (x16.2 == 0)).bind fun c20 =>
            (some ((mget m8 x10.f_Rec.f_Acc).isSome)).bind fun c21 =>
            if (c19 || (c20 && (c21 || (decide (x10.f_Day < (((mget m7 x10.f_Rec.f_Acc).getD ((⟨0, 0, 0, 0, 0, 0, 0, 0⟩ : T_api_Record) : T_api_Record)).f_From)))))) = true then
              some (.inr (.inr (.inr false)))
            else
              if (x16.2 == 0) = true then
                if (x10.f_Day != 50000) = true then
                  some (.inl (x16.1, m7, (mset m8 x10.f_Rec.f_Acc x10.f_Day), m9))
                else
                  some (.inl (x16.1, m7, m8, m9))
              else
                some (.inl (c6, m7, m8, m9))
          else
            (chart_Open c6 (⟨x10.f_Rec.f_Acc, x10.f_Rec.f_Kind, x10.f_Rec.f_Cur, x10.f_Rec.f_Customer, x10.f_Rec.f_Product, x10.f_Rec.f_Partition, x10.f_Rec.f_From, 50000⟩ : T_api_Record)).bind fun x22 =>
            (some (x22.2 == 26)).bind fun c23 =>
            (some (c23 && (!((mget m7 x10.f_Rec.f_Acc).isSome)))).bind fun c24 =>
            (some (x22.2 == 0)).bind fun c25 =>
            (some ((mget m7 x10.f_Rec.f_Acc).isSome)).bind fun c26 =>
            (some (decide (x10.f_Rec.f_Customer > 0))).bind fun c27 =>
            (some (c24 || (c25 && (c26 || (c27 && (((mget m9 x10.f_Rec.f_Customer).getD (0 : Int)) == 0)))))).bind fun c28 =>
            (some (x22.2 == 8)).bind fun c29 =>
            (some (x10.f_Rec.f_Customer == 0)).bind fun c30 =>
            if (c28 || (c29 && (c30 || (decide (((mget m9 x10.f_Rec.f_Customer).getD (0 : Int)) > 0))))) = true then
              some (.inr (.inr (.inr false)))
            else
              if (x22.2 == 0) = true then
                some (.inl (x22.1, (mset m7 x10.f_Rec.f_Acc (⟨x10.f_Rec.f_Acc, x10.f_Rec.f_Kind, x10.f_Rec.f_Cur, x10.f_Rec.f_Customer, x10.f_Rec.f_Product, x10.f_Rec.f_Partition, x10.f_Rec.f_From, 50000⟩ : T_api_Record)), m8, m9))
              else
                some (.inl (c6, m7, m8, m9))) : Option ((T_api_Chart × (List (Int × T_api_Record)) × (List (Int × Int)) × (List (Int × Int))) ⊕ ((Int × T_api_Chart × (List (Int × T_api_Record)) × (List (Int × Int)) × (List (Int × Int))) ⊕ ((T_api_Chart × (List (Int × T_api_Record)) × (List (Int × Int))) ⊕ Bool)))).bind fun j11 => match j11 with
        | .inr o => some o
        | .inl (c31, m32, m33, m34) =>
        (chart_Right c31).bind fun x35 =>
        if (!x35) = true then
          some (.inr (.inr false))
        else
          some (.inl (IntKind.wrap .i64 (x5 + 1), c31, m32, m33, m34))
      else
        some (.inr (.inl (c6, m7, m8))) : Option ((Int × T_api_Chart × (List (Int × T_api_Record)) × (List (Int × Int)) × (List (Int × Int))) ⊕ ((T_api_Chart × (List (Int × T_api_Record)) × (List (Int × Int))) ⊕ Bool)))) (0, (⟨([] : List T_api_Customer), ([] : List T_api_Record)⟩ : T_api_Chart), ([] : List (Int × T_api_Record)), ([] : List (Int × Int)), ([] : List (Int × Int)))) : Option ((T_api_Chart × (List (Int × T_api_Record)) × (List (Int × Int))) ⊕ Bool)).bind fun j4 => match j4 with
  | .inr o => some o
  | .inl (c36, m37, m38) =>
  if ((c36.f_Records.length : Int) != (m37.length : Int)) = true then
    some false
  else
    ((loopO (fun (qj39 : Int) => match qj39 with
      | x40 => (
        if (decide (x40 < (c36.f_Records.length : Int))) = true then
          (rdO c36.f_Records x40).bind fun x41 =>
          (chart_Find c36 x41.f_Acc).bind fun x42 =>
          ((if ((mget m38 x41.f_Acc).isSome) = true then
            some ((mget m38 x41.f_Acc).getD (0 : Int))
          else
            some (((mget m37 x41.f_Acc).getD ((⟨0, 0, 0, 0, 0, 0, 0, 0⟩ : T_api_Record) : T_api_Record)).f_To)) : Option Int).bind fun j43 =>
          (some (x42.2 != 0)).bind fun c45 =>
          (some (c45 || (!((mget m37 x41.f_Acc).isSome)))).bind fun c46 =>
          (some (c46 || (!(T_api_Record.same x42.1 x41)))).bind fun c47 =>
          if (c47 || (!(T_api_Record.same x42.1 (⟨((mget m37 x41.f_Acc).getD ((⟨0, 0, 0, 0, 0, 0, 0, 0⟩ : T_api_Record) : T_api_Record)).f_Acc, ((mget m37 x41.f_Acc).getD ((⟨0, 0, 0, 0, 0, 0, 0, 0⟩ : T_api_Record) : T_api_Record)).f_Kind, ((mget m37 x41.f_Acc).getD ((⟨0, 0, 0, 0, 0, 0, 0, 0⟩ : T_api_Record) : T_api_Record)).f_Cur, ((mget m37 x41.f_Acc).getD ((⟨0, 0, 0, 0, 0, 0, 0, 0⟩ : T_api_Record) : T_api_Record)).f_Customer, ((mget m37 x41.f_Acc).getD ((⟨0, 0, 0, 0, 0, 0, 0, 0⟩ : T_api_Record) : T_api_Record)).f_Product, ((mget m37 x41.f_Acc).getD ((⟨0, 0, 0, 0, 0, 0, 0, 0⟩ : T_api_Record) : T_api_Record)).f_Partition, ((mget m37 x41.f_Acc).getD ((⟨0, 0, 0, 0, 0, 0, 0, 0⟩ : T_api_Record) : T_api_Record)).f_From, j43⟩ : T_api_Record)))) = true then
            some (.inr (.inr false))
          else
            (chart_Is c36 x41.f_Acc day2).bind fun x48 =>
            (some (x48.2 != 0)).bind fun c49 =>
            (some (c49 && (x48.2 != 11))).bind fun c50 =>
            (some (x48.2 == 0)).bind fun c51 =>
            (some (decide (day2 ≥ x42.1.f_From))).bind fun c52 =>
            if (c50 || (c51 && (!(x48.1 == (c52 && (decide (day2 ≤ x42.1.f_To))))))) = true then
              some (.inr (.inr false))
            else
              some (.inl (IntKind.wrap .i64 (x40 + 1)))
        else
          some (.inr (.inl ())) : Option (Int ⊕ (Unit ⊕ Bool)))) 0) : Option (Unit ⊕ Bool)).bind fun j39 => match j39 with
    | .inr o => some o
    | .inl _ =>
    (cashbooklaw18_alive).bind fun x53 =>
    some x53
end Go.Av.G
