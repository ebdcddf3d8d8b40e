/- HoldTells: what the law computes, by hand: it answers true. -/
import Derived.Test.YtkcilagjhieapaaUhr
set_option linter.unusedVariables false
set_option linter.unusedSimpArgs false
set_option maxRecDepth 4000
set_option maxHeartbeats 4000000
namespace Go.Av.G
open Go Go.Av Go.Proofs

theorem refRest_eq (h : T_api_Hold) (now : Int) : cashbookref25_Rest h now = some (restH h now) := by
  simp only [cashbookref25_Rest, refLive_eq, Option.bind_some]
  unfold restH
  cases hl : liveH h now with
  | false => rfl
  | true =>
    have := okH_spec (live_ok hl)
    simp only [Bool.not_true, Bool.false_eq_true, if_false, if_true]
    rw [wrap64 (by omega) (by omega)]

theorem refsum_loop {l : List T_api_Hold} {acc cur now rank : Int} (hn : l.length ≤ 1000) : ∀ (t pre : List T_api_Hold) (n : Int), l = pre ++ t → 0 ≤ n → n + t.length * 1000000000000000 ≤ 4000000000000000000 →
    loopO (fun (qj6 : Int × Int) => match qj6 with
    | (n7, i8) => (
      if (decide (i8 < (l.length : Int))) = true then
        (rdO l i8).bind fun x9 =>
        (some (x9.f_Acc == acc)).bind fun c10 =>
        (gdO c10 (rdO l i8) (default : T_api_Hold)).bind fun x11 =>
        (some (c10 && (x11.f_Amount.f_Cur == cur))).bind fun c12 =>
        (gdO c12 (rdO l i8) (default : T_api_Hold)).bind fun x13 =>
        ((if (c12 && (decide (x13.f_Rank ≥ rank))) = true then
          (rdO l i8).bind fun x15 =>
          (cashbookref25_Rest x15 now).bind fun x16 =>
          some (IntKind.wrap .i64 (n7 + x16))
        else
          some n7) : Option Int).bind fun j14 =>
        some (.inl (j14, IntKind.wrap .i64 (i8 + 1)))
      else
        some (.inr n7) : Option ((Int × Int) ⊕ Int))) (n, (pre.length : Int)) = some (n + sumL t acc cur now rank) := by
  intro t
  induction t with
  | nil =>
    intro pre n hl _ _
    rw [loopO_out (o := n)]
    · simp [sumL]
    · have : decide ((pre.length : Int) < (l.length : Int)) = false := by rw [hl]; simp
      simp only [this, Bool.false_eq_true, if_false]
  | cons h t ih =>
    intro pre n hl h0 h1
    have hlen : l.length = pre.length + (t.length + 1) := by rw [hl]; simp
    simp only [List.length_cons] at h1
    have hr := restH_range h now
    have hw := wH_range acc cur now rank h
    have hd : decide ((pre.length : Int) < (l.length : Int)) = true := by simp; omega
    have hx : rdO l (pre.length : Int) = some h := by rw [hl]; exact rd_mid rfl
    have e1 : IntKind.wrap .i64 ((pre.length : Int) + 1) = (((pre ++ [h]).length : Nat) : Int) := wN (by simp) (by simp; omega)
    have e : sumL (h :: t) acc cur now rank = wH acc cur now rank h + sumL t acc cur now rank := by simp [sumL]
    have := ih (pre ++ [h]) (n + wH acc cur now rank h) (by simp [hl]) (by omega) (by omega)
    rw [loopO_on (s' := (n + wH acc cur now rank h, (((pre ++ [h]).length : Nat) : Int))), this, e, Int.add_assoc]
    have ew : IntKind.wrap .i64 (n + restH h now) = n + restH h now := wrap64 (by omega) (by omega)
    simp only [hd, if_true, hx, Option.bind_some, gdO_some, refRest_eq, ew, e1]
    unfold wH
    by_cases ha : h.f_Acc = acc
    · have ba : (h.f_Acc == acc) = true := by simpa using ha
      simp only [ba, cond_true, Bool.true_and]
      by_cases hc : h.f_Amount.f_Cur = cur
      · have bc : (h.f_Amount.f_Cur == cur) = true := by simpa using hc
        simp only [bc, cond_true, Bool.true_and, decide_eq_true_eq]
        by_cases hk : rank ≤ h.f_Rank
        · rw [if_pos hk, if_pos ⟨ha, hc, hk⟩]
          rfl
        · rw [if_neg hk, if_neg (fun q => hk q.2.2)]
          simp
      · have bc : (h.f_Amount.f_Cur == cur) = false := by simpa using hc
        simp only [bc, cond_false, Bool.false_and, Bool.false_eq_true, if_false]
        rw [if_neg (fun q => hc q.2.1)]
        simp
    · have ba : (h.f_Acc == acc) = false := by simpa using ha
      simp only [ba, cond_false, Bool.false_and, Bool.false_eq_true, if_false]
      rw [if_neg (fun q => ha q.1)]
      simp

theorem refsum_eq {l : List T_api_Hold} (hn : l.length ≤ 1000) (acc cur now rank : Int) : cashbookref25_Sum l acc cur now rank = some (sumL l acc cur now rank) := by
  unfold cashbookref25_Sum
  have := refsum_loop (l := l) (acc := acc) (cur := cur) (now := now) (rank := rank) hn l [] 0 rfl (by omega) (by omega)
  simp only [List.length_nil, Option.bind_some] at this ⊢
  have e0 : ((0 : Nat) : Int) = 0 := rfl
  rw [e0] at this
  rw [this, Int.zero_add]
  rfl

theorem refcov_in {l : List T_api_Hold} {acc cur now : Int} {k : Int} (hn : l.length ≤ 1000) : ∀ (t pre : List T_api_Hold) (left : Int) (row : List T_api_Covered), l = pre ++ t → 0 ≤ left → left < 9223372036854775808 → row.length + t.length ≤ 1000000 →
    loopO (fun (qj10 : Int × Int × (List T_api_Covered)) => match qj10 with
          | (left11, i12, row13) => (
            if (decide (i12 < (l.length : Int))) = true then
              (rdO l i12).bind fun x14 =>
              (cashbookref25_Live x14 now).bind fun x15 =>
              (gdO x15 (rdO l i12) (default : T_api_Hold)).bind fun x16 =>
              (some (x15 && (x16.f_Rank == k))).bind fun c17 =>
              (gdO c17 (rdO l i12) (default : T_api_Hold)).bind fun x18 =>
              (some (c17 && (x18.f_Acc == acc))).bind fun c19 =>
              (gdO c19 (rdO l i12) (default : T_api_Hold)).bind fun x20 =>
              ((if (c19 && (x20.f_Amount.f_Cur == cur)) = true then
                (rdO l i12).bind fun x22 =>
                (cashbookref25_Rest x22 now).bind fun x23 =>
                (rdO l i12).bind fun x24 =>
                (apO 16 row13 [(⟨x24.f_ID, (if x23 < left11 then x23 else left11)⟩ : T_api_Covered)]).bind fun x25 =>
                some (IntKind.wrap .i64 (left11 - (if x23 < left11 then x23 else left11)), x25)
              else
                some (left11, row13)) : Option (Int × (List T_api_Covered))).bind fun (left26, row27) =>
              some (.inl (left26, IntKind.wrap .i64 (i12 + 1), row27))
            else
              some (.inr (left11, row13)) : Option ((Int × Int × (List T_api_Covered)) ⊕ (Int × (List T_api_Covered))))) (left, (pre.length : Int), row) = some (covR now left ((t.filter (selB acc cur now)).filter fun h => h.f_Rank == k), row ++ covL now left ((t.filter (selB acc cur now)).filter fun h => h.f_Rank == k)) := by
  intro t
  induction t with
  | nil =>
    intro pre left row hl _ _ _
    rw [loopO_out (o := (left, row))]
    · simp [covL, covR]
    · have : decide ((pre.length : Int) < (l.length : Int)) = false := by rw [hl]; simp
      simp only [this, Bool.false_eq_true, if_false]
  | cons h t ih =>
    intro pre left row hl h0 h1 hrow
    have hlen : l.length = pre.length + (t.length + 1) := by rw [hl]; simp
    simp only [List.length_cons] at hrow
    have hd : decide ((pre.length : Int) < (l.length : Int)) = true := by simp; omega
    have hx : rdO l (pre.length : Int) = some h := by rw [hl]; exact rd_mid rfl
    have e1 : IntKind.wrap .i64 ((pre.length : Int) + 1) = (((pre ++ [h]).length : Nat) : Int) := wN (by simp) (by simp; omega)
    have hq := lesser_range (restH_range h now).1 h0
    have e2 : IntKind.wrap .i64 (left - lesser (restH h now) left) = left - lesser (restH h now) left := wrap64 (by omega) (by omega)
    have ea : apO 16 row [(⟨h.f_ID, lesser (restH h now) left⟩ : T_api_Covered)] = some (row ++ [⟨h.f_ID, lesser (restH h now) left⟩]) := apO_eq (by simp; omega)
    by_cases hs : (liveH h now && (h.f_Rank == k) && (h.f_Acc == acc) && (h.f_Amount.f_Cur == cur)) = true
    · have hf : ((h :: t).filter (selB acc cur now)).filter (fun h => h.f_Rank == k) = h :: ((t.filter (selB acc cur now)).filter fun h => h.f_Rank == k) := by
        simp only [Bool.and_eq_true] at hs
        have : selB acc cur now h = true := by unfold selB; simp only [hs.1.1.1, hs.1.2, hs.2, Bool.and_self]
        rw [List.filter_cons, if_pos this, List.filter_cons, if_pos hs.1.1.2]
      rw [hf]
      have := ih (pre ++ [h]) (left - lesser (restH h now) left) (row ++ [⟨h.f_ID, lesser (restH h now) left⟩]) (by simp [hl]) (by omega) (by omega) (by simp; omega)
      rw [loopO_on (s' := (left - lesser (restH h now) left, (((pre ++ [h]).length : Nat) : Int), row ++ [⟨h.f_ID, lesser (restH h now) left⟩])), this]
      · simp [covL, covR]
      · simp only [Bool.and_eq_true] at hs
        unfold lesser at ea e2
        simp only [hd, if_true, hx, Option.bind_some, gdO_some, refLive_eq, refRest_eq, hs.1.1.1, hs.1.1.2, hs.1.2, hs.2, cond_true, Bool.and_self, ea, e1, e2]
        unfold lesser
        rfl
    · have hf : ((h :: t).filter (selB acc cur now)).filter (fun h => h.f_Rank == k) = (t.filter (selB acc cur now)).filter fun h => h.f_Rank == k := by
        rw [List.filter_cons]
        split
        · rename_i hsel
          rw [List.filter_cons, if_neg]
          intro hk
          apply hs
          unfold selB at hsel
          simp only [Bool.and_eq_true] at hsel ⊢
          exact ⟨⟨⟨hsel.2.2, hk⟩, hsel.1⟩, hsel.2.1⟩
        · rfl
      rw [hf]
      have := ih (pre ++ [h]) left row (by simp [hl]) h0 h1 (by omega)
      rw [loopO_on (s' := (left, (((pre ++ [h]).length : Nat) : Int), row)), this]
      simp only [hd, if_true, hx, Option.bind_some, gdO_some, refLive_eq, e1]
      have hfalse : ((liveH h now && ((bif liveH h now then h else default).f_Rank == k)) && ((bif (liveH h now && ((bif liveH h now then h else default).f_Rank == k)) then h else default).f_Acc == acc) && ((bif ((liveH h now && ((bif liveH h now then h else default).f_Rank == k)) && ((bif (liveH h now && ((bif liveH h now then h else default).f_Rank == k)) then h else default).f_Acc == acc)) then h else default).f_Amount.f_Cur == cur)) = false := by
        rw [Bool.eq_false_iff]
        intro hc
        apply hs
        cases hv : liveH h now with
        | false => rw [hv] at hc; simp at hc
        | true =>
          rw [hv] at hc
          simp only [cond_true, Bool.true_and] at hc ⊢
          cases hk : h.f_Rank == k with
          | false => rw [hk] at hc; simp at hc
          | true =>
            rw [hk] at hc
            simp only [cond_true, Bool.true_and] at hc ⊢
            cases hA : h.f_Acc == acc with
            | false => rw [hA] at hc; simp at hc
            | true =>
              rw [hA] at hc
              simpa using hc
      simp only [hfalse, Bool.false_eq_true, if_false, Option.bind_some]

theorem refcov_out {l : List T_api_Hold} {acc cur now : Int} (hn : l.length ≤ 1000) : ∀ (k : Nat) (left : Int) (row : List T_api_Covered), k ≤ 9 → 0 ≤ left → left < 9223372036854775808 → row.length ≤ (9 - k) * 1000 →
    loopO (fun (qj6 : Int × Int × (List T_api_Covered)) => match qj6 with
    | (left7, rank8, row9) => (
      if (decide (rank8 ≥ 0)) = true then
        ((loopO (fun (qj10 : Int × Int × (List T_api_Covered)) => match qj10 with
          | (left11, i12, row13) => (
            if (decide (i12 < (l.length : Int))) = true then
              (rdO l i12).bind fun x14 =>
              (cashbookref25_Live x14 now).bind fun x15 =>
              (gdO x15 (rdO l i12) (default : T_api_Hold)).bind fun x16 =>
              (some (x15 && (x16.f_Rank == rank8))).bind fun c17 =>
              (gdO c17 (rdO l i12) (default : T_api_Hold)).bind fun x18 =>
              (some (c17 && (x18.f_Acc == acc))).bind fun c19 =>
              (gdO c19 (rdO l i12) (default : T_api_Hold)).bind fun x20 =>
              ((if (c19 && (x20.f_Amount.f_Cur == cur)) = true then
                (rdO l i12).bind fun x22 =>
                (cashbookref25_Rest x22 now).bind fun x23 =>
                (rdO l i12).bind fun x24 =>
                (apO 16 row13 [(⟨x24.f_ID, (if x23 < left11 then x23 else left11)⟩ : T_api_Covered)]).bind fun x25 =>
                some (IntKind.wrap .i64 (left11 - (if x23 < left11 then x23 else left11)), x25)
              else
                some (left11, row13)) : Option (Int × (List T_api_Covered))).bind fun (left26, row27) =>
              some (.inl (left26, IntKind.wrap .i64 (i12 + 1), row27))
            else
              some (.inr (left11, row13)) : Option ((Int × Int × (List T_api_Covered)) ⊕ (Int × (List T_api_Covered))))) (left7, 0, row9)) : Option (Int × (List T_api_Covered))).bind fun (left28, row29) =>
        some (.inl (left28, IntKind.wrap .i64 (rank8 - 1), row29))
      else
        some (.inr row9) : Option ((Int × Int × (List T_api_Covered)) ⊕ (List T_api_Covered)))) (left, (k : Int), row) = some (row ++ covL now left (byRank (l.filter (selB acc cur now)) k)) := by
  intro k
  induction k with
  | zero =>
    intro left row _ h0 h1 hrow
    have hi := refcov_in (l := l) (acc := acc) (cur := cur) (now := now) (k := ((0 : Nat) : Int)) hn l [] left row rfl h0 h1 (by omega)
    have e0 : (([] : List T_api_Hold).length : Int) = 0 := rfl
    rw [e0] at hi
    rw [loopO_on (s' := (covR now left ((l.filter (selB acc cur now)).filter fun h => h.f_Rank == ((0 : Nat) : Int)), (-1), row ++ covL now left ((l.filter (selB acc cur now)).filter fun h => h.f_Rank == ((0 : Nat) : Int)))), loopO_out]
    · rfl
    · have hd : decide (((0 : Nat) : Int) ≥ 0) = true := rfl
      simp only [hd, if_true]
      rw [hi]
      rfl
  | succ k ih =>
    intro left row hk h0 h1 hrow
    have hi := refcov_in (l := l) (acc := acc) (cur := cur) (now := now) (k := ((k + 1 : Nat) : Int)) hn l [] left row rfl h0 h1 (by omega)
    have e0 : (([] : List T_api_Hold).length : Int) = 0 := rfl
    rw [e0] at hi
    have hr := covR_range now ((l.filter (selB acc cur now)).filter fun h => h.f_Rank == ((k + 1 : Nat) : Int)) left h0
    have hll : ((l.filter (selB acc cur now)).filter fun h => h.f_Rank == ((k + 1 : Nat) : Int)).length ≤ 1000 := Nat.le_trans (List.length_filter_le _ _) (Nat.le_trans (List.length_filter_le _ _) hn)
    have := ih (covR now left ((l.filter (selB acc cur now)).filter fun h => h.f_Rank == ((k + 1 : Nat) : Int))) (row ++ covL now left ((l.filter (selB acc cur now)).filter fun h => h.f_Rank == ((k + 1 : Nat) : Int))) (by omega) hr.1 (by omega) (by rw [List.length_append, covL_length]; omega)
    rw [loopO_on (s' := (covR now left ((l.filter (selB acc cur now)).filter fun h => h.f_Rank == ((k + 1 : Nat) : Int)), (k : Int), row ++ covL now left ((l.filter (selB acc cur now)).filter fun h => h.f_Rank == ((k + 1 : Nat) : Int)))), this]
    · rw [byRank, covL_append, List.append_assoc]
    · have hd : decide (((k + 1 : Nat) : Int) ≥ 0) = true := by simp; omega
      have ew : IntKind.wrap .i64 (((k + 1 : Nat) : Int) - 1) = (k : Int) := wN (by omega) (by omega)
      simp only [hd, if_true, ew]
      rw [hi]
      rfl

theorem refcover_eq {l : List T_api_Hold} (hn : l.length ≤ 1000) {funds : Int} (hf : funds < 9223372036854775808) (acc cur now : Int) :
    cashbookref25_Cover l acc cur now funds = some (covL now (if 0 > funds then 0 else funds) (byRank (l.filter (selB acc cur now)) 9)) := by
  unfold cashbookref25_Cover
  have e : (if funds > 0 then funds else 0) = (if 0 > funds then 0 else funds) := by split <;> split <;> omega
  have h0 : 0 ≤ (if 0 > funds then 0 else funds) ∧ (if 0 > funds then 0 else funds) < 9223372036854775808 := by split <;> omega
  have := refcov_out (l := l) (acc := acc) (cur := cur) (now := now) hn 9 (if 0 > funds then 0 else funds) [] (by omega) h0.1 h0.2 (by simp)
  have e9 : ((9 : Nat) : Int) = 9 := rfl
  rw [e9] at this
  rw [e, this]
  rfl

theorem holdTells_law (l : List T_api_Hold) (x : T_cashbooklaw25_Ask) (_ : l.length ≤ maxLen ∧ ∀ x ∈ l, T_api_Hold.wf x) (hw : T_cashbooklaw25_Ask.wf x) : cashbooklaw25_HoldTells l x = some true := by
  have hf : x.f_Funds < 9223372036854775808 := by
    have h1 : x.f_Funds ≤ 9223372036854775807 := hw.2.2.2.2.1.2
    omega
  unfold cashbooklaw25_HoldTells
  by_cases hn : l.length ≤ 300
  · rw [if_neg (by simp; omega)]
    by_cases hb : chkH l = 0
    · have hg := chkH_good.1 hb
      have hfw := hg.few
      simp only [check_eq l (show l.length < 4611686018427387904 by omega), refCheck_eq l (show l.length < 4611686018427387904 by omega), sum_eq hg, cover_eq hg hf, hb, Option.bind_some, bne_self_eq_false, Bool.or_self, live_eq, refLive_eq, rest_eq, refRest_eq, gdO_some, Bool.not_false, cond_true, beq_self_eq_true, Bool.not_true, Bool.false_eq_true, if_false, refcover_eq (show l.length ≤ 1000 by omega) hf, alive, refsum_eq (show l.length ≤ 1000 by omega), Bool.and_self]
      rw [covered_same _ (by rw [covL_length]; have := (byRank_all (s := l.filter (selB x.f_Acc x.f_Cur x.f_Now)) (fun x hx => sel_rank hx)).length_eq; have := List.length_filter_le (selB x.f_Acc x.f_Cur x.f_Now) l; omega)]
      rfl
    · have hne : (chkH l != 0) = true := by simpa using hb
      simp only [check_eq l (show l.length < 4611686018427387904 by omega), refCheck_eq l (show l.length < 4611686018427387904 by omega), sum_bad (show l.length < 4611686018427387904 by omega) hb, cover_bad (show l.length < 4611686018427387904 by omega) hb, Option.bind_some, bne_self_eq_false, Bool.or_self, live_eq, refLive_eq, rest_eq, refRest_eq, gdO_some, Bool.not_false, cond_true, beq_self_eq_true, Bool.not_true, Bool.false_eq_true, if_false, hne, if_true, alive, Bool.and_self, List.length_nil]
      rfl
  · rw [if_pos (by simp; omega), alive]
    rfl

end Go.Av.G
