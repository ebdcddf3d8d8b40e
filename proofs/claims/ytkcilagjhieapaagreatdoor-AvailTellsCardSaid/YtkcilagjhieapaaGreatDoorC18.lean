import Derived.Test.YtkcilagjhieapaaGreatDoorC17
section
set_option linter.unusedVariables false
set_option linter.unusedSimpArgs false
set_option maxRecDepth 4000
set_option maxHeartbeats 4000000
namespace Go.Av.G
open Go Go.Av Go.Proofs
def conv (x : T_balance_leg) : T_cashbookref21_L := ⟨x.f_known, x.f_value, x.f_minor⟩
theorem rlegs_in {p : T_api_Posting} {acc cur : Int} (hl : p.f_Legs.length ≤ 1000) : ∀ (t pre : List T_api_Leg) (row : List T_cashbookref21_L), p.f_Legs = pre ++ t → row.length + t.length ≤ 1000000 →
  loopO (fun (qj8 : Int × (List T_cashbookref21_L)) => match qj8 with
     | (x9, row10) => (
      if (decide (x9 < (p.f_Legs.length : Int))) = true then
       (rdO p.f_Legs x9).bind fun x11 =>
       (some (x11.f_Acc == acc)).bind fun c12 =>
       ((if (c12 && (x11.f_Amount.f_Cur == cur)) = true then
         (apO 16 row10 [(⟨p.f_Known, p.f_Value, x11.f_Amount.f_Minor⟩ : T_cashbookref21_L)]).bind fun x14 =>
         some x14
       else
        some row10) : Option (List T_cashbookref21_L)).bind fun j13 =>
       some (.inl (IntKind.wrap .i64 (x9 + 1), j13))
      else
       some (.inr row10) : Option ((Int × (List T_cashbookref21_L)) ⊕ (List T_cashbookref21_L)))) ((pre.length : Int), row) = some (row ++ (flatP acc cur p t).map conv) := by
 intro t
 induction t with
 | nil =>
  intro pre row he _
  rw [loopO_out (o := row)]
  ·simp [flatP]
  ·have : decide ((pre.length : Int) < (p.f_Legs.length : Int)) = false := by rw [he]; simp
   simp only [this, Bool.false_eq_true, if_false]
 | cons x t ih =>
  intro pre row he hrow
  have hlen : p.f_Legs.length = pre.length + (t.length + 1) := by rw [he]; simp
  simp only [List.length_cons] at hrow
  have hd : decide ((pre.length : Int) < (p.f_Legs.length : Int)) = true := by simp; omega
  have hx : rdO p.f_Legs (pre.length : Int) = some x := by rw [he]; exact rd_mid rfl
  have e1 : IntKind.wrap .i64 ((pre.length : Int) + 1) = (((pre ++ [x]).length : Nat) : Int) := wN (by simp) (by simp; omega)
  cases hs : selL acc cur x with
  | true =>
   have hf : flatP acc cur p (x :: t) = ⟨p.f_Known, p.f_Value, x.f_Amount.f_Minor⟩ :: flatP acc cur p t := by simp [flatP, List.filter_cons, hs]
   have hs' : (x.f_Acc == acc && x.f_Amount.f_Cur == cur) = true := hs
   have ea : apO 16 row [(⟨p.f_Known, p.f_Value, x.f_Amount.f_Minor⟩ : T_cashbookref21_L)] = some (row ++ [⟨p.f_Known, p.f_Value, x.f_Amount.f_Minor⟩]) := apO_eq (by simp; omega)
   have := ih (pre ++ [x]) (row ++ [⟨p.f_Known, p.f_Value, x.f_Amount.f_Minor⟩]) (by simp [he]) (by simp; omega)
   rw [hf, loopO_on (s' := ((((pre ++ [x]).length : Nat) : Int), row ++ [⟨p.f_Known, p.f_Value, x.f_Amount.f_Minor⟩])), this]
   ·simp [conv]
   ·simp only [hd, if_true, hx, Option.bind_some, hs', ea, e1]
  | false =>
   have hf : flatP acc cur p (x :: t) = flatP acc cur p t := by simp [flatP, List.filter_cons, hs]
   have hs' : (x.f_Acc == acc && x.f_Amount.f_Cur == cur) = false := hs
   have := ih (pre ++ [x]) row (by simp [he]) (by omega)
   rw [hf, loopO_on (s' := ((((pre ++ [x]).length : Nat) : Int), row)), this]
   simp only [hd, if_true, hx, Option.bind_some, hs', Bool.false_eq_true, if_false, e1]
theorem rlegs_eq {l : List T_api_Posting} (hl : FitL l) (acc cur : Int) : cashbookref21_Legs l acc cur = some ((flatL acc cur l).map conv) := by
 have key : ∀ (t pre : List T_api_Posting) (row : List T_cashbookref21_L), l = pre ++ t → row.length + t.length * 6 ≤ 1000000 →
  loopO (fun (qj4 : Int × (List T_cashbookref21_L)) => match qj4 with
  | (x5, row6) => (
   if (decide (x5 < (l.length : Int))) = true then
    (rdO l x5).bind fun x7 =>
    ((loopO (fun (qj8 : Int × (List T_cashbookref21_L)) => match qj8 with
      | (x9, row10) => (
       if (decide (x9 < (x7.f_Legs.length : Int))) = true then
        (rdO x7.f_Legs x9).bind fun x11 =>
        (some (x11.f_Acc == acc)).bind fun c12 =>
        ((if (c12 && (x11.f_Amount.f_Cur == cur)) = true then
          (apO 16 row10 [(⟨x7.f_Known, x7.f_Value, x11.f_Amount.f_Minor⟩ : T_cashbookref21_L)]).bind fun x14 =>
          some x14
        else
         some row10) : Option (List T_cashbookref21_L)).bind fun j13 =>
        some (.inl (IntKind.wrap .i64 (x9 + 1), j13))
       else
        some (.inr row10) : Option ((Int × (List T_cashbookref21_L)) ⊕ (List T_cashbookref21_L)))) (0, row6)) : Option (List T_cashbookref21_L)).bind fun j8 =>
    some (.inl (IntKind.wrap .i64 (x5 + 1), j8))
   else
    some (.inr row6) : Option ((Int × (List T_cashbookref21_L)) ⊕ (List T_cashbookref21_L)))) ((pre.length : Int), row) = some (row ++ (flatL acc cur t).map conv) := by
  intro t
  induction t with
  | nil =>
   intro pre row he _
   rw [loopO_out (o := row)]
   ·simp [flatL]
   ·have : decide ((pre.length : Int) < (l.length : Int)) = false := by rw [he]; simp
    simp only [this, Bool.false_eq_true, if_false]
  | cons p t ih =>
   intro pre row he hrow
   have hlen : l.length = pre.length + (t.length + 1) := by rw [he]; simp
   have hf := hl.few
   have hmem : p ∈ l := by rw [he]; simp
   have h6 := hl.legs p hmem
   simp only [List.length_cons] at hrow
   have hd : decide ((pre.length : Int) < (l.length : Int)) = true := by simp; omega
   have hx : rdO l (pre.length : Int) = some p := by rw [he]; exact rd_mid rfl
   have e1 : IntKind.wrap .i64 ((pre.length : Int) + 1) = (((pre ++ [p]).length : Nat) : Int) := wN (by simp) (by simp; omega)
   have hin := rlegs_in (p := p) (acc := acc) (cur := cur) (by omega) p.f_Legs [] row rfl (by omega)
   have e0 : (((([] : List T_api_Leg).length : Nat)) : Int) = 0 := rfl
   rw [e0] at hin
   have := ih (pre ++ [p]) (row ++ (flatP acc cur p p.f_Legs).map conv) (by simp [he]) (by have := flatP_len acc cur p p.f_Legs; simp; omega)
   rw [loopO_on (s' := ((((pre ++ [p]).length : Nat) : Int), row ++ (flatP acc cur p p.f_Legs).map conv)), this]
   ·simp [flatL]
   ·simp only [hd, if_true, hx, Option.bind_some, e1]
    exact bind_at hin rfl
 unfold cashbookref21_Legs
 have := key l [] [] rfl (by have := hl.few; simp; omega)
 have e0 : (((([] : List T_api_Posting).length : Nat)) : Int) = 0 := rfl
 rw [e0] at this
 exact bind_at this rfl
theorem rgreat_eq {l : List T_balance_leg} (hl : l.length < 1000000) : cashbookref21_Great (l.map conv) = some (greatF 0 l).isNone := by
 have key : ∀ (t pre : List T_balance_leg) (g : Int), l = pre ++ t → 0 ≤ g → g ≤ 1000000000000000000 →
  loopO (fun (qj2 : Int × Int) => match qj2 with
  | (sum3, x4) => (
   if (decide (x4 < ((l.map conv).length : Int))) = true then
    (rdO (l.map conv) x4).bind fun x5 =>
    (some (decide (x5.f_Minor > 1000000000000000000))).bind fun c6 =>
    if (c6 || (decide (x5.f_Minor < (-1000000000000000000)))) = true then
     some (.inr (.inr true))
    else
     ((if (decide (x5.f_Minor < 0)) = true then
       some (IntKind.wrap .i64 (sum3 - x5.f_Minor))
     else
      some (IntKind.wrap .i64 (sum3 + x5.f_Minor))) : Option Int).bind fun j7 =>
     if (decide (j7 > 1000000000000000000)) = true then
      some (.inr (.inr true))
     else
      some (.inl (j7, IntKind.wrap .i64 (x4 + 1)))
   else
    some (.inr (.inl ())) : Option ((Int × Int) ⊕ (Unit ⊕ Bool)))) (g, (pre.length : Int)) = some (if (greatF g t).isNone = true then .inr true else .inl ()) := by
  intro t
  induction t with
  | nil =>
   intro pre g he _ _
   rw [loopO_out (o := .inl ())]
   ·simp [greatF]
   ·have : decide ((pre.length : Int) < ((l.map conv).length : Int)) = false := by rw [he]; simp
    simp only [this, Bool.false_eq_true, if_false]
  | cons x t ih =>
   intro pre g he h0 h1
   have hlen : l.length = pre.length + (t.length + 1) := by rw [he]; simp
   have hd : decide ((pre.length : Int) < ((l.map conv).length : Int)) = true := by simp; omega
   have hx : rdO (l.map conv) (pre.length : Int) = some (conv x) := by rw [he, List.map_append, List.map_cons]; exact rd_mid (by simp)
   have e1 : IntKind.wrap .i64 ((pre.length : Int) + 1) = (((pre ++ [x]).length : Nat) : Int) := wN (by simp) (by simp; omega)
   have ec : (conv x).f_Minor = x.f_minor := rfl
   have hgf : greatF g (x :: t) = if 1000000000000000000 - g < absI x.f_minor then none else greatF (g + absI x.f_minor) t := rfl
   rw [hgf]
   by_cases hb : x.f_minor > 1000000000000000000 ∨ x.f_minor < -1000000000000000000
   ·have hb' : (decide (x.f_minor > 1000000000000000000) || decide (x.f_minor < (-1000000000000000000))) = true := by simpa using hb
    have hgt : 1000000000000000000 - g < absI x.f_minor := by unfold absI; split <;> omega
    rw [if_pos hgt, loopO_out (o := .inr true)]
    ·rfl
    ·simp only [hd, if_true, hx, Option.bind_some, ec, hb']
   ·have hb' : (decide (x.f_minor > 1000000000000000000) || decide (x.f_minor < (-1000000000000000000))) = false := by
     rw [Bool.eq_false_iff]; intro h; simp only [Bool.or_eq_true, decide_eq_true_eq] at h; exact hb h
    have hj : ((if (decide (x.f_minor < 0)) = true then some (IntKind.wrap .i64 (g - x.f_minor)) else some (IntKind.wrap .i64 (g + x.f_minor))) : Option Int) = some (g + absI x.f_minor) := by
     unfold absI
     by_cases hn : x.f_minor < 0
     ·rw [if_pos (by simpa using hn), if_pos hn, wrap64 (by omega) (by omega)]
      congr 1
     ·rw [if_neg (by simpa using hn), if_neg hn, wrap64 (by omega) (by omega)]
    by_cases hg : 1000000000000000000 - g < absI x.f_minor
    ·rw [if_pos hg, loopO_out (o := .inr true)]
     ·rfl
     ·simp only [hd, if_true, hx, Option.bind_some, ec, hb', Bool.false_eq_true, if_false, hj]
      rw [if_pos (by simp; omega)]
    ·have ha := absI_pos x.f_minor
     rw [if_neg hg, loopO_on (s' := (g + absI x.f_minor, (((pre ++ [x]).length : Nat) : Int))), ih (pre ++ [x]) _ (by simp [he]) (by omega) (by omega)]
     simp only [hd, if_true, hx, Option.bind_some, ec, hb', Bool.false_eq_true, if_false, hj, e1]
     rw [if_neg (by simp; omega)]
 unfold cashbookref21_Great
 have := key l [] 0 rfl (by omega) (by omega)
 have e0 : (((([] : List T_balance_leg).length : Nat)) : Int) = 0 := rfl
 rw [e0] at this
 refine bind_at this ?_
 cases (greatF 0 l).isNone <;> rfl
theorem rof_eq {l : List T_balance_leg} {G : Int} (hl : l.length < 1000000) (hG : greatF 0 l = some G) (e : Int) : cashbookref21_Of (l.map conv) e = some (sumV e l) := by
 have key : ∀ (t pre : List T_balance_leg) (n g G : Int), l = pre ++ t → greatF g t = some G → 0 ≤ g → g ≤ 1000000000000000000 → -g ≤ n → n ≤ g →
  loopO (fun (qj3 : Int × Int) => match qj3 with
  | (n4, x5) => (
   if (decide (x5 < ((l.map conv).length : Int))) = true then
    (rdO (l.map conv) x5).bind fun x6 =>
    ((if (decide (x6.f_Value ≤ e)) = true then
      some (IntKind.wrap .i64 (n4 + x6.f_Minor))
    else
     some n4) : Option Int).bind fun j7 =>
    some (.inl (j7, IntKind.wrap .i64 (x5 + 1)))
   else
    some (.inr n4) : Option ((Int × Int) ⊕ Int))) (n, (pre.length : Int)) = some (n + sumV e t) := by
  intro t
  induction t with
  | nil =>
   intro pre n g G he _ _ _ _ _
   rw [loopO_out (o := n)]
   ·simp [sumV]
   ·have : decide ((pre.length : Int) < ((l.map conv).length : Int)) = false := by rw [he]; simp
    simp only [this, Bool.false_eq_true, if_false]
  | cons x t ih =>
   intro pre n g G he hg h0 h1 h2 h3
   have hlen : l.length = pre.length + (t.length + 1) := by rw [he]; simp
   have hd : decide ((pre.length : Int) < ((l.map conv).length : Int)) = true := by simp; omega
   have hx : rdO (l.map conv) (pre.length : Int) = some (conv x) := by rw [he, List.map_append, List.map_cons]; exact rd_mid (by simp)
   have e1 : IntKind.wrap .i64 ((pre.length : Int) + 1) = (((pre ++ [x]).length : Nat) : Int) := wN (by simp) (by simp; omega)
   have ec : (conv x).f_Minor = x.f_minor := rfl
   have ev : (conv x).f_Value = x.f_value := rfl
   have ha := absI_pos x.f_minor
   have hg' : (if 1000000000000000000 - g < absI x.f_minor then none else greatF (g + absI x.f_minor) t) = some G := hg
   split at hg'
   ·cases hg'
   ·have hsv : sumV e (x :: t) = (if x.f_value ≤ e then x.f_minor else 0) + sumV e t := rfl
    rw [hsv]
    by_cases hv : x.f_value ≤ e
    ·have ew : IntKind.wrap .i64 (n + x.f_minor) = n + x.f_minor := wrap64 (by omega) (by omega)
     have := ih (pre ++ [x]) (n + x.f_minor) _ _ (by simp [he]) hg' (by omega) (by omega) (by omega) (by omega)
     rw [loopO_on (s' := (n + x.f_minor, (((pre ++ [x]).length : Nat) : Int))), this, if_pos hv, Int.add_assoc]
     simp only [hd, if_true, hx, Option.bind_some, ec, ev, decide_eq_true hv, ew, e1]
    ·have := ih (pre ++ [x]) n _ _ (by simp [he]) hg' (by omega) (by omega) (by omega) (by omega)
     rw [loopO_on (s' := (n, (((pre ++ [x]).length : Nat) : Int))), this, if_neg hv, Int.zero_add]
     simp only [hd, if_true, hx, Option.bind_some, ec, ev, decide_eq_false hv, Bool.false_eq_true, if_false, e1]
 unfold cashbookref21_Of
 have := key l [] 0 0 G rfl hG (by omega) (by omega) (by omega) (by omega)
 have e0 : (((([] : List T_balance_leg).length : Nat)) : Int) = 0 := rfl
 rw [e0] at this
 rw [this, Int.zero_add]
 rfl
theorem rlimits_eq {l : List T_api_Limit} (hn : l.length ≤ 200) : cashbookref26_limits l = some (!(List.range' 0 l.length).any (limQ l)) := by
 unfold cashbookref26_limits
 rw [loopI_any0 (n := l.length) (q := limQ l) (o := (Sum.inr false : Unit ⊕ Bool)) (e := Sum.inl ()) (by omega)]
 ·cases (List.range' 0 l.length).any (limQ l) with
  | true => rfl
  | false =>
   simp only [Bool.false_eq_true, if_false, Option.bind_some, Bool.not_false, Option.some.injEq]
   exact decide_eq_true (by omega)
 ·intro i h
  simp only [decide_eq_true_eq]
  rw [if_pos (by omega), rdO_at h]
  simp only [Option.bind_some]
  unfold limQ
  rw [List.getElem?_eq_getElem h]
  simp only [Option.any_some]
  have hb : (((decide (l[i].f_Acc < 1) || decide (l[i].f_Acc > 999)) || decide (l[i].f_Minor < 0)) || decide (l[i].f_Minor > 1000000000000000)) = !okLim l[i] := by
   unfold okLim
   rw [Bool.eq_iff_iff]
   simp
   omega
  rw [hb]
  by_cases hk : okLim l[i] = true
  ·cases i with
   | zero => simp [hk, gdO]
   | succ i =>
    have e1 : IntKind.wrap .i64 (((i + 1 : Nat) : Int) - 1) = (i : Int) := by rw [wrap64 (by omega) (by omega)]; omega
    have e2 : decide (((i + 1 : Nat) : Int) > 0) = true := decide_eq_true (by omega)
    rw [e1, e2, rdO_at (by omega), descends_at (by omega) h]
    by_cases hd : (l[i]).f_Acc ≥ (l[i + 1]).f_Acc <;> simp [hk, gdO, hd]
  ·have hk' : okLim l[i] = false := by simpa using hk
   simp [hk', gdO]
 ·intro i h
  simp only [decide_eq_true_eq]
  rw [if_neg (by omega)]
theorem rRight_at {t : T_api_Till} (hf : FewT t) (h : RightT t) : cashbookref26_Right t = some true := by
 unfold cashbookref26_Right
 have hh := hf.holds
 have hlim := hf.limits
 have h2 : decide ((t.f_L.length : Int) ≤ 2000) = true := decide_eq_true (by have := h.few; omega)
 have h3 := (limQ_iff (by omega)).2 h.limits
 rw [refRight_at hf.chart h.chart]
 simp only [Option.bind_some, h2, Bool.and_self, gdO_some, cond_true, refCheck_eq t.f_Holds (by omega), chkH_good.2 h.holds, beq_self_eq_true, rlimits_eq (show t.f_Limits.length ≤ 200 by omega), h3, Bool.not_false]
theorem rRight_not {t : T_api_Till} (hf : FewT t) (h : ¬ RightT t) : cashbookref26_Right t = some false := by
 unfold cashbookref26_Right
 have hh := hf.holds
 have hlim := hf.limits
 have hex : ∃ c, cashbookref18_Right t.f_Chart = some c ∧ (c = true → RightP t.f_Chart) := by
  by_cases hc : RightP t.f_Chart
  ·exact ⟨true, refRight_at hf.chart hc, fun _ => hc⟩
  ·exact ⟨false, refRight_not hf.chart hc, fun h => by cases h⟩
 obtain ⟨c, ec, hc⟩ := hex
 rw [ec]
 simp only [Option.bind_some, gdO_some, refCheck_eq t.f_Holds (show t.f_Holds.length < 4611686018427387904 by omega), rlimits_eq (show t.f_Limits.length ≤ 200 by omega), Option.some.injEq]
 rw [Bool.eq_false_iff]
 intro hb
 apply h
 cases c with
 | false => simp at hb
 | true =>
  by_cases h2 : t.f_L.length ≤ 2000
  ·have h2' : decide ((t.f_L.length : Int) ≤ 2000) = true := decide_eq_true (by omega)
   rw [h2'] at hb
   simp only [Bool.and_self, Bool.true_and, cond_true, Bool.and_eq_true, beq_iff_eq] at hb
   obtain ⟨h3, h4⟩ := hb
   rw [h3] at h4
   simp only [beq_self_eq_true, cond_true, Bool.not_eq_true'] at h4
   exact ⟨hc rfl, h2, chkH_good.1 h3, (limQ_iff (by omega)).1 h4⟩
  ·have h2' : decide ((t.f_L.length : Int) ≤ 2000) = false := decide_eq_false (by omega)
   rw [h2'] at hb
   simp at hb
theorem rWhy_eq {t : T_api_Till} (hf : FewT t) (hr : RightT t) (acc now : Int) : cashbookref26_Why t acc now = some (whyT t acc now) := by
 have hF := hf.legs hr.few
 have hfew := hF.few
 unfold cashbookref26_Why
 rw [placeR_eq _ _ (by have := hf.chart.2.1; omega)]
 unfold whyT recT recI
 cases hi : fstIdx t.f_Chart.f_Records (fun r => r.f_Acc == acc) with
 | none => rfl
 | some i =>
  obtain ⟨h1, h2, _⟩ := fstIdx_some hi
  have hneg : decide ((i : Int) < 0) = false := decide_eq_false (by omega)
  simp only [Option.bind_some, hneg, Bool.false_eq_true, if_false, rdO_at h1, List.getElem?_eq_getElem h1, Option.getD_some]
  generalize t.f_Chart.f_Records[i] = r
  have hlen := flatL_len acc r.f_Cur hF.legs
  unfold whyR
  by_cases hk : r.f_Kind = 1
  ·have hk' : (r.f_Kind != 1) = false := by simpa using hk
   rw [if_neg (not_not_intro hk)]
   simp only [hk', Bool.false_eq_true, if_false, cashbookref04_Right, Option.bind_some]
   by_cases hn : -50000 ≤ now ∧ now ≤ 50000
   ·have hn' : (!(decide (now ≥ -50000) && decide (now ≤ 50000))) = false := by simp [hn]
    rw [if_neg (not_not_intro hn)]
    simp only [hn', Bool.false_eq_true, if_false]
    by_cases ho : r.f_From ≤ now ∧ now ≤ r.f_To
    ·have ho' : (decide (now < r.f_From) || decide (now > r.f_To)) = false := by simp [ho]
     rw [if_neg (not_not_intro ho)]
     simp only [ho', Bool.false_eq_true, if_false, rlegs_eq hF, Option.bind_some, rgreat_eq (show (flatL acc r.f_Cur t.f_L).length < 1000000 by omega)]
     cases greatF 0 (flatL acc r.f_Cur t.f_L) <;> rfl
    ·have ho' : (decide (now < r.f_From) || decide (now > r.f_To)) = true := by
      simp only [Bool.or_eq_true, decide_eq_true_eq]; omega
     rw [if_pos ho]
     simp only [ho', if_true]
   ·have hn' : (!(decide (now ≥ -50000) && decide (now ≤ 50000))) = true := by
     rw [Bool.not_eq_true', Bool.eq_false_iff]
     intro h
     simp at h
     exact hn h
    rw [if_pos hn]
    simp only [hn', if_true]
  ·have hk' : (r.f_Kind != 1) = true := by simpa using hk
   rw [if_pos hk]
   simp only [hk', if_true]
theorem rCur_eq {t : T_api_Till} (hf : FewT t) {acc now : Int} (hw : whyT t acc now = 0) : cashbookref26_Cur t acc = some (recT t acc).f_Cur := by
 obtain ⟨i, hi, h1, h2, h3, _⟩ := whyT_rec hw
 unfold cashbookref26_Cur
 have : fstIdx t.f_Chart.f_Records (fun r => r.f_Acc == acc) = some i := h1
 rw [placeR_eq _ _ (by have := hf.chart.2.1; omega), this]
 simp only [Option.bind_some, rdO_at hi, h2]
theorem rFunds_eq {t : T_api_Till} (hf : FewT t) (hr : RightT t) {acc now : Int} (hw : whyT t acc now = 0) : cashbookref26_Funds t acc now = some (fundsT t acc now) := by
 have hF := hf.legs hr.few
 have hfew := hF.few
 obtain ⟨i, hi, h1, h2, h3, h4⟩ := whyT_rec hw
 obtain ⟨_, _, _, _, _, G, hG⟩ := whyR_ok h4
 have hlen := flatL_len acc (recT t acc).f_Cur hF.legs
 have h5 := sumV_range now _ hG
 have h6 := greatF_range _ hG (by omega) (by omega)
 have ew : IntKind.wrap .i64 (0 - sumV now (flatL acc (recT t acc).f_Cur t.f_L)) = - sumV now (flatL acc (recT t acc).f_Cur t.f_L) := by rw [wrap64 (by omega) (by omega)]; omega
 unfold cashbookref26_Funds
 rw [rCur_eq hf hw]
 simp only [Option.bind_some, rlegs_eq hF, rof_eq (show (flatL acc (recT t acc).f_Cur t.f_L).length < 1000000 by omega) hG, ew]
 rfl
theorem rlimit_eq {t : T_api_Till} (hf : FewT t) (acc : Int) : cashbookref26_limit t acc = some (limR t.f_Limits acc) := by
 unfold cashbookref26_limit limR
 have hlim := hf.limits
 rw [loopL_idx (l := t.f_Limits) (fun x => x.f_Acc == acc) (o := fun i => (Sum.inr ((t.f_Limits[i]?).getD default).f_Minor : Unit ⊕ Int)) (e := Sum.inl ()) (by omega)]
 ·cases fstIdx t.f_Limits (fun x => x.f_Acc == acc) <;> rfl
 ·intro i h
  simp only [decide_eq_true_eq]
  rw [if_pos (by omega), rdO_at h]
  simp only [Option.bind_some, List.getElem?_eq_getElem h, Option.getD_some]
  split <;> rfl
 ·intro i h
  simp only [decide_eq_true_eq]
  rw [if_neg (by omega)]
theorem rAll_eq {t : T_api_Till} (hf : FewT t) (hr : RightT t) {acc now : Int} (hw : whyT t acc now = 0) : cashbookref26_All t acc now = some (fundsT t acc now + limR t.f_Limits acc) := by
 have h := lims_range hf hr hw 0
 unfold cashbookref26_All
 rw [rFunds_eq hf hr hw, rlimit_eq hf]
 simp only [Option.bind_some]
 rw [wrap64 (by omega) (by omega)]
theorem rFree_eq {t : T_api_Till} (hf : FewT t) (hr : RightT t) {acc now : Int} (hw : whyT t acc now = 0) (rank : Int) : cashbookref26_Free t acc now rank = some (freeT t acc now rank) := by
 have h := lims_range hf hr hw rank
 have hh := hf.holds
 unfold cashbookref26_Free
 rw [rAll_eq hf hr hw, rCur_eq hf hw]
 simp only [Option.bind_some, refsum_eq (show t.f_Holds.length ≤ 1000 by omega)]
 rw [wrap64 (by omega) (by omega)]
 rfl
end Go.Av.G
end
section
set_option linter.unusedVariables false
set_option linter.unusedSimpArgs false
set_option maxRecDepth 4000
set_option maxHeartbeats 4000000
namespace Go.Av.G
open Go Go.Av Go.Proofs
theorem amountRight_eq (m : T_api_Money) : cashbooklaw26_amountRight m = some (decide (1 ≤ m.f_Minor ∧ m.f_Minor ≤ 1000000000000000)) := by
 simp [cashbooklaw26_amountRight]
theorem availTells_law (t : T_api_Till) (acc now rank : Int) (m : T_api_Money) (h1 : t.wf) (h2 : inR .i64 acc) (h3 : inR .i32 now) (h4 : inR .i64 rank) (h5 : m.wf) : cashbooklaw26_AvailTells t acc now rank m = some true := by
 unfold cashbooklaw26_AvailTells
 rw [few_eq]
 have hf := cut_few h1
 generalize cutT t = t at hf
 simp only [Option.bind_some]
 by_cases hr : RightT t
 ·rw [ARight_at hf hr, rRight_at hf hr, alive]
  by_cases hw : whyT t acc now = 0
  ·rw [Funds_at hf hr hw, Pay_at hf hr hw, rWhy_eq hf hr, hw, rFunds_eq hf hr hw, rCur_eq hf hw, amountRight_eq]
   simp only [Option.bind_some, rFree_eq hf hr hw]
   by_cases hk : 0 ≤ rank ∧ rank ≤ 9
   ·have hk' : (decide (rank < 0) || decide (rank > 9)) = false := by
     rw [Bool.eq_false_iff]; intro h; simp at h; omega
    rw [Free_at hf hr hk hw]
    simp only [Option.bind_some, gdO_some, hk', beq_self_eq_true, Bool.not_true, Bool.not_false, cond_true, Bool.or_self, Bool.false_eq_true, if_false, bne_self_eq_false, Bool.false_and, Bool.and_self, Bool.and_true]
    by_cases hc : m.f_Cur = (recT t acc).f_Cur
    ·have hc' : (m.f_Cur != (recT t acc).f_Cur) = false := by simpa using hc
     rw [if_neg (not_not_intro hc)]
     simp only [hc', Bool.false_eq_true, if_false]
     by_cases hm : 1 ≤ m.f_Minor ∧ m.f_Minor ≤ 1000000000000000
     ·rw [if_neg (not_not_intro hm)]
      simp [hm]
     ·rw [if_pos hm]
      simp [hm]
    ·have hc' : (m.f_Cur != (recT t acc).f_Cur) = true := by simpa using hc
     rw [if_pos hc]
     simp only [hc', if_true]
     rfl
   ·have hk' : (decide (rank < 0) || decide (rank > 9)) = true := by
     simp only [Bool.or_eq_true, decide_eq_true_eq]; omega
    rw [Free_rank hf (by omega)]
    simp only [Option.bind_some, gdO_some, hk', beq_self_eq_true, Bool.not_true, Bool.not_false, cond_true, cond_false, Bool.or_self, Bool.false_eq_true, if_false, bne_self_eq_false, Bool.false_and, Bool.and_false, Bool.and_self, Bool.and_true, Bool.or_false]
    by_cases hc : m.f_Cur = (recT t acc).f_Cur
    ·have hc' : (m.f_Cur != (recT t acc).f_Cur) = false := by simpa using hc
     rw [if_neg (not_not_intro hc)]
     simp only [hc', Bool.false_eq_true, if_false]
     by_cases hm : 1 ≤ m.f_Minor ∧ m.f_Minor ≤ 1000000000000000
     ·rw [if_neg (not_not_intro hm)]
      simp [hm]
     ·rw [if_pos hm]
      simp [hm]
    ·have hc' : (m.f_Cur != (recT t acc).f_Cur) = true := by simpa using hc
     rw [if_pos hc]
     simp only [hc', if_true]
     rfl
  ·rw [Funds_why hf hr hw, Pay_why hf hr hw, rWhy_eq hf hr]
   have hw' : (whyT t acc now != 0) = true := by simpa using hw
   by_cases hk : 0 ≤ rank ∧ rank ≤ 9
   ·have hk' : (decide (rank < 0) || decide (rank > 9)) = false := by
     rw [Bool.eq_false_iff]; intro h; simp at h; omega
    rw [Free_why hf hr hk hw]
    simp only [Option.bind_some, gdO_some, hk', beq_self_eq_true, Bool.not_true, Bool.not_false, cond_true, Bool.or_self, Bool.false_eq_true, if_false, bne_self_eq_false, Bool.false_and, Bool.and_self, Bool.and_true, hw', if_true, Bool.or_true]
   ·have hk' : (decide (rank < 0) || decide (rank > 9)) = true := by
     simp only [Bool.or_eq_true, decide_eq_true_eq]; omega
    rw [Free_rank hf (by omega)]
    simp only [Option.bind_some, gdO_some, hk', beq_self_eq_true, Bool.not_true, Bool.not_false, cond_true, Bool.or_self, Bool.false_eq_true, if_false, bne_self_eq_false, Bool.false_and, Bool.and_false, Bool.and_self, Bool.and_true, hw', if_true, Bool.true_or]
 ·rw [ARight_not hf hr, rRight_not hf hr, alive, Funds_bad hf hr, Free_bad hf hr, Pay_bad hf hr]
  rfl
end Go.Av.G
end
