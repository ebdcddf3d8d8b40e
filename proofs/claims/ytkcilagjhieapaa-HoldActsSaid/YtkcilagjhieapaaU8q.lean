/- HoldActs: what the law computes, by hand: it answers true. -/
import Derived.Test.YtkcilagjhieapaaUhr
set_option linter.unusedVariables false
set_option linter.unusedSimpArgs false
set_option maxRecDepth 4000
set_option maxHeartbeats 4000000
namespace Go.Av.G
open Go Go.Av Go.Proofs

theorem holds_same (a : List T_api_Hold) (hn : a.length < 4611686018427387904) : cashbookref25_Same a a = some true := by
  unfold cashbookref25_Same
  rw [if_neg (by simp), loopL_any (l := a) (fun _ => false) (o := (Sum.inr false : Unit ⊕ Bool)) (e := Sum.inl ()) hn]
  · have : (a.any fun _ => false) = false := by simp
    rw [this]
    rfl
  · intro i h
    simp only [decide_eq_true_eq]
    rw [if_pos (by omega), rdO_at h]
    simp only [Option.bind_some, sameH]
    rfl
  · intro i h
    simp only [decide_eq_true_eq]
    rw [if_neg (by omega)]

theorem find_eq (l : List T_api_Hold) (n : Int) (hn : l.length < 4611686018427387904) : cashbookref25_find l n = some (match fstIdx l (fun x => x.f_ID == n) with | some i => ((i : Nat) : Int) | none => -1) := by
  unfold cashbookref25_find
  rw [loopL_idx (l := l) (fun x => x.f_ID == n) (o := fun i => (Sum.inr ((i : Nat) : Int) : Unit ⊕ Int)) (e := Sum.inl ()) hn]
  · cases fstIdx l fun x => x.f_ID == n <;> rfl
  · intro i h
    simp only [decide_eq_true_eq]
    rw [if_pos (by omega), rdO_at h]
    simp only [Option.bind_some]
    split <;> rfl
  · intro i h
    simp only [decide_eq_true_eq]
    rw [if_neg (by omega)]

theorem find_at {l : List T_api_Hold} (hg : GoodL l) {i : Nat} (hi : i < l.length) : cashbookref25_find l l[i].f_ID = some (i : Int) := by
  have hf := hg.few
  rw [find_eq _ _ (by omega)]
  cases h : fstIdx l fun x => x.f_ID == l[i].f_ID with
  | some j =>
    obtain ⟨hj, h1, _⟩ := fstIdx_some h
    have := hg.rise.inj hj hi (by simpa using h1)
    rw [this]
  | none =>
    have := fstIdx_none h l[i] (List.getElem_mem hi)
    simp at this

theorem find_none {l : List T_api_Hold} (hg : GoodL l) {n : Int} (hx : ∀ x ∈ l, x.f_ID ≠ n) : cashbookref25_find l n = some (-1) := by
  have hf := hg.few
  rw [find_eq _ _ (by omega)]
  cases h : fstIdx l fun x => x.f_ID == n with
  | some j =>
    obtain ⟨hj, h1, _⟩ := fstIdx_some h
    exact absurd (by simpa using h1) (hx _ (List.getElem_mem hj))
  | none => rfl

theorem with_eq {l : List T_api_Hold} (hn : l.length ≤ 1000) {i : Nat} (hi : i < l.length) (h : T_api_Hold) : cashbookref25_with l (i : Int) h = some (l.set i h) := by
  unfold cashbookref25_with
  have := loopG (f := fun (qj4 : Int × (List T_api_Hold)) => match qj4 with
    | (i5, row6) => (
      if (decide (i5 < (l.length : Int))) = true then
        ((if (i5 == (i : Int)) = true then
          (apO 64 row6 [h]).bind fun x8 =>
          some x8
        else
          (rdO l i5).bind fun x9 =>
          (apO 64 row6 [x9]).bind fun x10 =>
          some x10) : Option (List T_api_Hold)).bind fun j7 =>
        some (.inl (IntKind.wrap .i64 (i5 + 1), j7))
      else
        some (.inr row6) : Option ((Int × (List T_api_Hold)) ⊕ (List T_api_Hold)))) (n := l.length) (fun k => ((k : Int), (l.set i h).take k)) (o := l.set i h) (by
      intro k hk
      have hd : decide ((k : Int) < (l.length : Int)) = true := by simp; omega
      have hs : k < (l.set i h).length := by simpa using hk
      have e1 : IntKind.wrap .i64 ((k : Int) + 1) = ((k + 1 : Nat) : Int) := wN (by omega) (by omega)
      have ha : ∀ x : T_api_Hold, apO 64 ((l.set i h).take k) [x] = some ((l.set i h).take k ++ [x]) := fun x => apO_eq (by simp [List.length_take]; omega)
      simp only [hd, if_true, rdO_at hk, Option.bind_some, ha, e1]
      rw [List.take_succ_eq_append_getElem hs]
      by_cases e : k = i
      · subst e
        simp
      · have : ((k : Int) == (i : Int)) = false := by simp; omega
        rw [this, List.getElem_set_ne (by omega)]
        simp) (by
      have hd : decide ((l.length : Int) < (l.length : Int)) = false := by simp
      have ht : (l.set i h).take l.length = l.set i h := List.take_of_length_le (by simp)
      simp only [hd, Bool.false_eq_true, if_false, ht])
  have e0 : ((0 : Nat) : Int) = 0 := rfl
  simp only [e0, List.take_zero] at this
  rw [this]
  rfl

theorem insH_end {h : T_api_Hold} : ∀ {t : List T_api_Hold}, (t.any fun x => decide (h.f_ID < x.f_ID)) = false → insH h t = t ++ [h]
  | [], _ => rfl
  | x :: t, hx => by
    simp only [List.any_cons, Bool.or_eq_false_iff, decide_eq_false_iff_not] at hx
    show (if h.f_ID < x.f_ID then h :: x :: t else x :: insH h t) = x :: (t ++ [h])
    rw [if_neg hx.1, insH_end hx.2]

theorem refadd_loop {l : List T_api_Hold} {h : T_api_Hold} (hn : l.length ≤ 1000) : ∀ (t pre row : List T_api_Hold) (d : Bool), l = pre ++ t → row.length = pre.length + (if d = true then 1 else 0) →
    loopO (fun (qj7 : Bool × Int × (List T_api_Hold)) => match qj7 with
          | (done8, i9, row10) => (
            if (decide (i9 < (l.length : Int))) = true then
              (some (!done8)).bind fun c11 =>
              (gdO c11 (rdO l i9) (default : T_api_Hold)).bind fun x12 =>
              ((if (c11 && (decide (x12.f_ID > h.f_ID))) = true then
                (apO 64 row10 [h]).bind fun x14 =>
                some (true, x14)
              else
                some (done8, row10)) : Option (Bool × (List T_api_Hold))).bind fun (done15, row16) =>
              (rdO l i9).bind fun x17 =>
              (apO 64 row16 [x17]).bind fun x18 =>
              some (.inl (done15, IntKind.wrap .i64 (i9 + 1), x18))
            else
              some (.inr (done8, row10)) : Option ((Bool × Int × (List T_api_Hold)) ⊕ (Bool × (List T_api_Hold))))) (d, (pre.length : Int), row) = some (if d = true then (true, row ++ t) else if (t.any fun x => decide (h.f_ID < x.f_ID)) = true then (true, row ++ insH h t) else (false, row ++ t)) := by
  intro t
  induction t with
  | nil =>
    intro pre row d hl hr
    rw [loopO_out (o := (d, row))]
    · cases d <;> simp
    · have : decide ((pre.length : Int) < (l.length : Int)) = false := by rw [hl]; simp
      simp only [this, Bool.false_eq_true, if_false]
  | cons x t ih =>
    intro pre row d hl hr
    have hlen : l.length = pre.length + (t.length + 1) := by rw [hl]; simp
    have hd : decide ((pre.length : Int) < (l.length : Int)) = true := by simp; omega
    have hx : rdO l (pre.length : Int) = some x := by rw [hl]; exact rd_mid rfl
    have e1 : IntKind.wrap .i64 ((pre.length : Int) + 1) = (((pre ++ [x]).length : Nat) : Int) := wN (by simp) (by simp; omega)
    have hrl : row.length ≤ pre.length + 1 := by rw [hr]; split <;> omega
    have a1 : ∀ y : T_api_Hold, apO 64 row [y] = some (row ++ [y]) := fun y => apO_eq (by simp; omega)
    have a2 : ∀ y z : T_api_Hold, apO 64 (row ++ [y]) [z] = some (row ++ [y] ++ [z]) := fun y z => apO_eq (by simp; omega)
    cases d with
    | true =>
      have := ih (pre ++ [x]) (row ++ [x]) true (by simp [hl]) (by simp at hr ⊢; omega)
      rw [loopO_on (s' := (true, (((pre ++ [x]).length : Nat) : Int), row ++ [x])), this]
      · simp
      · simp only [hd, if_true, Option.bind_some, Bool.not_true, gdO, Bool.false_and, Bool.false_eq_true, if_false, hx, a1, e1]
    | false =>
      by_cases hc : h.f_ID < x.f_ID
      · have := ih (pre ++ [x]) (row ++ [h] ++ [x]) true (by simp [hl]) (by simp at hr ⊢; omega)
        rw [loopO_on (s' := (true, (((pre ++ [x]).length : Nat) : Int), row ++ [h] ++ [x])), this]
        · have : insH h (x :: t) = h :: x :: t := by show (if h.f_ID < x.f_ID then h :: x :: t else x :: insH h t) = _; rw [if_pos hc]
          simp only [if_true, Bool.false_eq_true, if_false, List.any_cons, hc, decide_true, Bool.true_or, this]
          simp
        · simp only [hd, if_true, Option.bind_some, Bool.not_false, gdO, Bool.true_and, hx, gt_iff_lt, hc, decide_true, a1, a2, e1]
      · have := ih (pre ++ [x]) (row ++ [x]) false (by simp [hl]) (by simp at hr ⊢; omega)
        rw [loopO_on (s' := (false, (((pre ++ [x]).length : Nat) : Int), row ++ [x])), this]
        · simp only [Bool.false_eq_true, if_false, List.any_cons, hc, decide_false, Bool.false_or]
          have : insH h (x :: t) = x :: insH h t := by show (if h.f_ID < x.f_ID then h :: x :: t else x :: insH h t) = _; rw [if_neg hc]
          rw [this]
          simp
        · simp only [hd, if_true, Option.bind_some, Bool.not_false, gdO, Bool.true_and, hx, gt_iff_lt, hc, decide_false, Bool.false_eq_true, if_false, a1, e1]

theorem refadd_eq {l : List T_api_Hold} (hg : GoodL l) (h : T_api_Hold) : cashbookref25_Add l h = some (addH l h) := by
  have hf := hg.few
  unfold cashbookref25_Add addH
  simp only [refRight_eq, Option.bind_some]
  have hc : (!okH h || h.f_Taken != 0 || h.f_Done) = (!okH h || decide (0 < h.f_Taken) || h.f_Done) := by
    cases hk : okH h with
    | false => rfl
    | true =>
      have := okH_spec hk
      have : (h.f_Taken != 0) = decide (0 < h.f_Taken) := by rw [Bool.eq_iff_iff]; simp; omega
      rw [this]
  rw [hc]
  split
  · rfl
  · cases ha : l.any fun x => x.f_ID == h.f_ID with
    | true =>
      obtain ⟨i, hi, he⟩ := id_at ha
      have := find_at hg hi
      rw [he] at this
      rw [this]
      simp only [Option.bind_some, if_true]
      rw [if_pos (by simp)]
    | false =>
      rw [find_none hg (any_id.1 ha)]
      simp only [Option.bind_some, Bool.false_eq_true, if_false]
      have e1 : IntKind.wrap .i64 ((l.length : Int) + 1) = ((l.length + 1 : Nat) : Int) := wN (by omega) (by omega)
      rw [if_neg (by decide), e1]
      by_cases h2 : 200 ≤ l.length
      · rw [if_pos (by rw [decide_eq_true_eq]; omega), if_pos h2]
      · rw [if_neg (by rw [decide_eq_true_eq]; omega), if_neg h2]
        have := refadd_loop (l := l) (h := h) (by omega) l [] [] false rfl rfl
        simp only [List.length_nil, Bool.false_eq_true, if_false, List.nil_append, Option.bind_some] at this
        have e0 : ((0 : Nat) : Int) = 0 := rfl
        rw [e0] at this
        rw [this]
        simp only [Option.bind_some]
        cases hq : l.any fun x => decide (h.f_ID < x.f_ID) with
        | true => simp only [if_true, Bool.not_true, Bool.false_eq_true, if_false, Option.bind_some]
        | false =>
          have : apO 64 l [h] = some (l ++ [h]) := apO_eq (by simp; omega)
          simp only [Bool.false_eq_true, if_false, Bool.not_false, if_true, this, Option.bind_some, insH_end hq]

theorem refcap_none {l : List T_api_Hold} (hg : GoodL l) {id : Int} (h : ∀ x ∈ l, x.f_ID ≠ id) (a : T_api_Money) (now : Int) (last : Bool) : cashbookref25_Capture l id a now last = some ([], 8) := by
  unfold cashbookref25_Capture
  rw [find_none hg h]
  rfl

theorem refcap_at {l : List T_api_Hold} (hg : GoodL l) {i : Nat} (hi : i < l.length) (a : T_api_Money) (now : Int) (last : Bool) : cashbookref25_Capture l l[i].f_ID a now last = some (capL l i l[i] a now last) := by
  have hf := hg.few
  unfold cashbookref25_Capture capL
  rw [find_at hg hi]
  have hneg : decide (((i : Nat) : Int) < 0) = false := by simp
  simp only [Option.bind_some, hneg, Bool.false_eq_true, if_false, rdO_at hi, refLive_eq, refMoney_eq]
  cases hl : liveH l[i] now with
  | false => rfl
  | true =>
    simp only [Bool.not_true, Bool.false_eq_true, if_false, Bool.true_eq_false, bne_iff_ne, ne_eq]
    split
    · rfl
    · have hm : decide (a.f_Minor < 1) = decide (a.f_Minor ≤ 0) := by rw [Bool.eq_iff_iff]; simp; omega
      rw [hm]
      split
      · rfl
      · rename_i h2
        have ho := okH_spec (live_ok hl)
        have hr : restH l[i] now = l[i].f_Amount.f_Minor - l[i].f_Taken := by unfold restH; rw [if_pos hl]
        have e1 : IntKind.wrap .i64 (l[i].f_Amount.f_Minor - l[i].f_Taken) = restH l[i] now := by rw [hr, wrap64 (by omega) (by omega)]
        simp only [e1, decide_eq_true_eq, gt_iff_lt]
        by_cases h3 : restH l[i] now < a.f_Minor
        · rw [if_pos h3, if_pos h3]
        · rw [if_neg h3, if_neg h3]
          have hp : 0 < a.f_Minor := by
            simp only [Bool.or_eq_true, decide_eq_true_eq, not_or] at h2
            omega
          rw [cap_taken hl hp h3, with_eq (by omega) hi]
          rfl

theorem refrel_none {l : List T_api_Hold} (hg : GoodL l) {id : Int} (h : ∀ x ∈ l, x.f_ID ≠ id) : cashbookref25_Release l id = some ([], 8) := by
  unfold cashbookref25_Release
  rw [find_none hg h]
  rfl

theorem refrel_at {l : List T_api_Hold} (hg : GoodL l) {i : Nat} (hi : i < l.length) : cashbookref25_Release l l[i].f_ID = some (relL l i l[i]) := by
  have hf := hg.few
  unfold cashbookref25_Release relL
  rw [find_at hg hi]
  have hneg : decide (((i : Nat) : Int) < 0) = false := by simp
  simp only [Option.bind_some, hneg, Bool.false_eq_true, if_false, rdO_at hi]
  split
  · rfl
  · rw [with_eq (by omega) hi]
    rfl

theorem insH_len (h : T_api_Hold) (l : List T_api_Hold) : (insH h l).length = l.length + 1 := insH_length

theorem cap_any {l : List T_api_Hold} (hg : GoodL l) (id : Int) (a : T_api_Money) (now : Int) (last : Bool) : ∃ r, hold_Capture l id a now last = some r ∧ cashbookref25_Capture l id a now last = some r ∧ r.1.length ≤ l.length := by
  cases h : l.any fun x => x.f_ID == id with
  | true =>
    obtain ⟨i, hi, rfl⟩ := id_at h
    refine ⟨_, cap_at hg hi a now last, refcap_at hg hi a now last, ?_⟩
    unfold capL
    split
    · simp
    · split
      · simp
      · split
        · simp
        · split <;> simp
  | false => exact ⟨_, cap_none hg (any_id.1 h) a now last, refcap_none hg (any_id.1 h) a now last, by simp⟩

theorem rel_any {l : List T_api_Hold} (hg : GoodL l) (id : Int) : ∃ r, hold_Release l id = some r ∧ cashbookref25_Release l id = some r ∧ r.1.length ≤ l.length := by
  cases h : l.any fun x => x.f_ID == id with
  | true =>
    obtain ⟨i, hi, rfl⟩ := id_at h
    refine ⟨_, rel_at hg hi, refrel_at hg hi, ?_⟩
    unfold relL
    split <;> simp
  | false => exact ⟨_, rel_none hg (any_id.1 h), refrel_none hg (any_id.1 h), by simp⟩

theorem addH_len (l : List T_api_Hold) (h : T_api_Hold) : (addH l h).1.length ≤ l.length + 1 := by
  unfold addH
  split
  · simp
  · split
    · simp
    · split
      · simp
      · simp [insH_length]

theorem holdActs (l : List T_api_Hold) (x : T_cashbooklaw25_Ask) (t : T_cashbooklaw25_Take) : cashbooklaw25_HoldActs l x t = some true := by
  unfold cashbooklaw25_HoldActs
  by_cases hn : l.length ≤ 300
  · rw [if_neg (by simp; omega)]
    by_cases hb : chkH l = 0
    · have hg := chkH_good.1 hb
      have hf := hg.few
      obtain ⟨c, c1, c2, c3⟩ := cap_any hg t.f_ID t.f_Amount t.f_Now t.f_Last
      obtain ⟨r, r1, r2, r3⟩ := rel_any hg t.f_ID
      have hal := addH_len l x.f_H
      simp only [add_eq hg, c1, r1, refCheck_eq l (by omega), hb, Option.bind_some, bne_self_eq_false, Bool.false_eq_true, if_false, refadd_eq hg, c2, r2, holds_same _ (show (addH l x.f_H).1.length < 4611686018427387904 by omega), holds_same _ (show c.1.length < 4611686018427387904 by omega), holds_same _ (show r.1.length < 4611686018427387904 by omega), alive, beq_self_eq_true, Bool.and_self]
    · have hne : (chkH l != 0) = true := by simpa using hb
      simp only [add_bad (show l.length < 4611686018427387904 by omega) hb, cap_bad (show l.length < 4611686018427387904 by omega) hb, rel_bad (show l.length < 4611686018427387904 by omega) hb, refCheck_eq l (show l.length < 4611686018427387904 by omega), Option.bind_some, hne, if_true, alive, beq_self_eq_true, Bool.and_self, List.length_nil]
      rfl
  · rw [if_pos (by simp; omega), alive]
    rfl

theorem holdActs_law (l : List T_api_Hold) (x : T_cashbooklaw25_Ask) (t : T_cashbooklaw25_Take) (_ : l.length ≤ maxLen ∧ ∀ x ∈ l, T_api_Hold.wf x) (_ : T_cashbooklaw25_Ask.wf x) (_ : T_cashbooklaw25_Take.wf t) : cashbooklaw25_HoldActs l x t = some true := holdActs l x t

end Go.Av.G
