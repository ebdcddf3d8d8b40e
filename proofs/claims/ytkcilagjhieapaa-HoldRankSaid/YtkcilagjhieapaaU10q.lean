/- HoldRank: what the law computes, by hand: it answers true. -/
import Derived.Test.YtkcilagjhieapaaUhx
set_option linter.unusedVariables false
set_option linter.unusedSimpArgs false
set_option maxRecDepth 4000
set_option maxHeartbeats 4000000
namespace Go.Av.G
open Go Go.Av Go.Proofs

theorem bind_at {α β : Type} {a : Option α} {x : α} {f : α → Option β} {o : Option β} (h : a = some x) (h2 : f x = o) : a.bind f = o := by subst h; exact h2

def sumR (now : Int) (l : List T_api_Hold) : Int := (l.map fun h => restH h now).sum

theorem sumR_cons (now : Int) (h : T_api_Hold) (t : List T_api_Hold) : sumR now (h :: t) = restH h now + sumR now t := by simp [sumR]

theorem sumR_perm {now : Int} {a b : List T_api_Hold} (p : a.Perm b) : sumR now a = sumR now b := by
  induction p with
  | nil => rfl
  | cons x _ ih => rw [sumR_cons, sumR_cons, ih]
  | swap x y l => simp only [sumR_cons]; omega
  | trans _ _ h1 h2 => rw [h1, h2]

theorem sumR_nonneg (now : Int) : ∀ l : List T_api_Hold, 0 ≤ sumR now l
  | [] => by simp [sumR]
  | h :: t => by
    rw [sumR_cons]
    have := (restH_range h now).1
    have := sumR_nonneg now t
    omega

theorem covR_sum (now : Int) : ∀ (l : List T_api_Hold) (left : Int), 0 ≤ left → covR now left l = if sumR now l < left then left - sumR now l else 0
  | [], left, h => by
    simp only [covR, sumR, List.map_nil, List.sum_nil]
    split <;> omega
  | h :: t, left, h0 => by
    have hr := (restH_range h now).1
    have hl := lesser_range hr h0
    have hs := sumR_nonneg now t
    simp only [covR]
    rw [covR_sum now t _ (by omega), sumR_cons]
    unfold lesser at hl ⊢
    split <;> split <;> split <;> omega

theorem sel_sum {acc cur now : Int} : ∀ l : List T_api_Hold, (∀ x ∈ l, okH x = true) → sumR now (l.filter (selB acc cur now)) = sumL l acc cur now 0
  | [], _ => by simp [sumR, sumL]
  | h :: t, ho => by
    have ih := sel_sum (acc := acc) (cur := cur) (now := now) t (fun x hx => ho x (by simp [hx]))
    have e : sumL (h :: t) acc cur now 0 = wH acc cur now 0 h + sumL t acc cur now 0 := by simp [sumL]
    have hk := okH_spec (ho h (by simp))
    rw [e, List.filter_cons]
    cases hs : selB acc cur now h with
    | true =>
      unfold selB at hs
      simp only [Bool.and_eq_true, beq_iff_eq] at hs
      rw [if_pos rfl, sumR_cons, ih]
      unfold wH
      rw [if_pos ⟨hs.1, hs.2.1, by omega⟩]
    | false =>
      rw [if_neg (by simp), ih]
      have : wH acc cur now 0 h = 0 := by
        unfold wH
        split
        · rename_i hc
          unfold selB at hs
          simp only [hc.1, hc.2.1, beq_self_eq_true, Bool.true_and] at hs
          unfold restH
          rw [hs]; simp
        · rfl
      omega

theorem sum_less {acc cur now rank : Int} : ∀ l : List T_api_Hold, (∀ x ∈ l, okH x = true) → sumL l acc cur now rank ≤ sumL l acc cur now 0
  | [], _ => by simp [sumL]
  | h :: t, ho => by
    have ih := sum_less (acc := acc) (cur := cur) (now := now) (rank := rank) t (fun x hx => ho x (by simp [hx]))
    have hk := okH_spec (ho h (by simp))
    have hr := (restH_range h now).1
    have e : ∀ r, sumL (h :: t) acc cur now r = wH acc cur now r h + sumL t acc cur now r := fun r => by simp [sumL]
    rw [e, e]
    have : wH acc cur now rank h ≤ wH acc cur now 0 h := by
      unfold wH
      split
      · rename_i hc
        rw [if_pos ⟨hc.1, hc.2.1, by omega⟩]
        omega
      · split <;> omega
    omega

theorem sum_high {acc cur now rank : Int} (h9 : 9 < rank) : ∀ l : List T_api_Hold, (∀ x ∈ l, okH x = true) → sumL l acc cur now rank = 0
  | [], _ => by simp [sumL]
  | h :: t, ho => by
    have ih := sum_high (acc := acc) (cur := cur) (now := now) h9 t (fun x hx => ho x (by simp [hx]))
    have hk := okH_spec (ho h (by simp))
    have e : sumL (h :: t) acc cur now rank = wH acc cur now rank h + sumL t acc cur now rank := by simp [sumL]
    have : wH acc cur now rank h = 0 := by
      unfold wH
      rw [if_neg (fun q => by have := q.2.2; omega)]
    omega

theorem rank_at {l : List T_api_Hold} (hg : GoodL l) {j : Nat} (hj : j < l.length) {c : List T_api_Covered} {ii : Int} {x : T_api_Covered} (hc : rdO c ii = some x) (hx : x.f_ID = l[j].f_ID) :
    loopO (fun (qj21 : Int × Int) => match qj21 with
              | (at_22, k23) => (
                if (decide (k23 < (l.length : Int))) = true then
                  (rdO l k23).bind fun x24 =>
                  (rdO c ii).bind fun x25 =>
                  ((if (x24.f_ID == x25.f_ID) = true then
                    some k23
                  else
                    some at_22) : Option Int).bind fun j26 =>
                  some (.inl (j26, IntKind.wrap .i64 (k23 + 1)))
                else
                  some (.inr at_22) : Option ((Int × Int) ⊕ Int))) ((-1), 0) = some (j : Int) := by
  have hf := hg.few
  refine Eq.trans (b := loopO _ ((fun k : Nat => ((if j < k then (j : Int) else -1), (k : Int))) 0)) rfl (loopG (n := l.length) (fun k : Nat => ((if j < k then (j : Int) else -1), (k : Int))) (fun k hk => ?_) ?_)
  · have hd : decide ((k : Int) < (l.length : Int)) = true := by simp; omega
    have e1 : IntKind.wrap .i64 ((k : Int) + 1) = ((k + 1 : Nat) : Int) := wN (by omega) (by omega)
    by_cases hkj : k = j
    · subst hkj
      have hb : (l[k].f_ID == x.f_ID) = true := by rw [hx]; simp
      simp only [hd, if_true, rdO_at hk, hc, Option.bind_some, hb, e1]
      rw [if_pos (Nat.lt_succ_self k)]
    · have hne : l[k].f_ID ≠ l[j].f_ID := fun q => hkj (hg.rise.inj hk hj q)
      have hb : (l[k].f_ID == x.f_ID) = false := by rw [hx]; simpa using hne
      simp only [hd, if_true, rdO_at hk, hc, Option.bind_some, hb, Bool.false_eq_true, if_false, e1]
      have : (if j < k then (j : Int) else -1) = (if j < k + 1 then (j : Int) else -1) := by
        by_cases q : j < k
        · rw [if_pos q, if_pos (by omega)]
        · rw [if_neg q, if_neg (by omega)]
      rw [this]
  · have hd : decide ((l.length : Int) < (l.length : Int)) = false := by simp
    simp only [hd, Bool.false_eq_true, if_false, hj, if_true]

theorem count_loop {l : List T_api_Hold} {acc cur now : Int} (hn : l.length ≤ 1000) :
    loopO (fun (qj47 : Int × Int) => match qj47 with
        | (live48, k49) => (
          if (decide (k49 < (l.length : Int))) = true then
            (rdO l k49).bind fun x50 =>
            (hold_Live x50 now).bind fun x51 =>
            (gdO x51 (rdO l k49) (default : T_api_Hold)).bind fun x52 =>
            (some (x51 && (x52.f_Acc == acc))).bind fun c53 =>
            (gdO c53 (rdO l k49) (default : T_api_Hold)).bind fun x54 =>
            ((if (c53 && (x54.f_Amount.f_Cur == cur)) = true then
              some (IntKind.wrap .i64 (live48 + 1))
            else
              some live48) : Option Int).bind fun j55 =>
            some (.inl (j55, IntKind.wrap .i64 (k49 + 1)))
          else
            some (.inr live48) : Option ((Int × Int) ⊕ Int))) (0, 0) = some (((l.filter (selB acc cur now)).length : Nat) : Int) := by
  refine Eq.trans (b := loopO _ ((fun k : Nat => ((((l.take k).filter (selB acc cur now)).length : Int), (k : Int))) 0)) (by simp only [List.take_zero, List.filter_nil, List.length_nil]; rfl) (loopG (n := l.length) (fun k : Nat => ((((l.take k).filter (selB acc cur now)).length : Int), (k : Int))) (fun k hk => ?_) ?_)
  · have hd : decide ((k : Int) < (l.length : Int)) = true := by simp; omega
    have e1 : IntKind.wrap .i64 ((k : Int) + 1) = ((k + 1 : Nat) : Int) := wN (by omega) (by omega)
    have hle : ((l.take k).filter (selB acc cur now)).length ≤ 1000 := Nat.le_trans (List.length_filter_le _ _) (by rw [List.length_take]; omega)
    have e2 : IntKind.wrap .i64 ((((l.take k).filter (selB acc cur now)).length : Int) + 1) = ((((l.take k).filter (selB acc cur now)).length + 1 : Nat) : Int) := wN (by omega) (by omega)
    have et : (l.take (k + 1)).filter (selB acc cur now) = (l.take k).filter (selB acc cur now) ++ (if selB acc cur now l[k] = true then [l[k]] else []) := by
      rw [List.take_succ_eq_append_getElem hk, List.filter_append, List.filter_cons, List.filter_nil]
    rw [et, List.length_append]
    simp only [hd, if_true, rdO_at hk, Option.bind_some, live_eq, gdO_some, e1, e2]
    unfold selB
    cases hl : liveH l[k] now with
    | false => simp
    | true =>
      cases ha : l[k].f_Acc == acc with
      | false => simp [ha]
      | true =>
        cases hc : l[k].f_Amount.f_Cur == cur with
        | false => simp [ha, hc]
        | true => simp [ha, hc]
  · have hd : decide ((l.length : Int) < (l.length : Int)) = false := by simp
    simp only [hd, Bool.false_eq_true, if_false, List.take_length]

theorem rank_loop {l : List T_api_Hold} (hg : GoodL l) {acc cur now F : Int} {rs : List T_api_Hold} (hrs : ∀ x ∈ rs, x ∈ l ∧ liveH x now = true ∧ x.f_Acc = acc ∧ x.f_Amount.f_Cur = cur) (hasc : Asc rs) (hlen : rs.length ≤ 1000) (hF : 0 ≤ F) (hF2 : F < 9223372036854775808) {c : List T_api_Covered} (hc : c = covL now F rs) :
    ∀ (t pre : List T_api_Hold) (full : Bool) (rank id : Int), rs = pre ++ t → (full = false → covR now F pre = 0) → (∀ h t', t = h :: t' → h.f_Rank < rank ∨ (h.f_Rank = rank ∧ id < h.f_ID)) →
    loopO (fun (qj15 : Int × Bool × Int × Int × Int) => match qj15 with
        | (sum16, full7, rank18, id19, i20) => (
          if (decide (i20 < (c.length : Int))) = true then
            ((loopO (fun (qj21 : Int × Int) => match qj21 with
              | (at_22, k23) => (
                if (decide (k23 < (l.length : Int))) = true then
                  (rdO l k23).bind fun x24 =>
                  (rdO c i20).bind fun x25 =>
                  ((if (x24.f_ID == x25.f_ID) = true then
                    some k23
                  else
                    some at_22) : Option Int).bind fun j26 =>
                  some (.inl (j26, IntKind.wrap .i64 (k23 + 1)))
                else
                  some (.inr at_22) : Option ((Int × Int) ⊕ Int))) ((-1), 0)) : Option Int).bind fun j21 =>
            if (decide (j21 < 0)) = true then
              some (.inr (.inr false))
            else
              (rdO l j21).bind fun x29 =>
              (hold_Rest x29 now).bind fun x30 =>
              (hold_Live x29 now).bind fun x31 =>
              (some (!x31)).bind fun c32 =>
              (some (c32 || (x29.f_Acc != acc))).bind fun c33 =>
              (some (c33 || (x29.f_Amount.f_Cur != cur))).bind fun c34 =>
              (gdO (!c34) (rdO c i20) (default : T_api_Covered)).bind fun x35 =>
              (some (c34 || (decide (x35.f_Much < 0)))).bind fun c36 =>
              (gdO (!c36) (rdO c i20) (default : T_api_Covered)).bind fun x37 =>
              (some (c36 || (decide (x37.f_Much > x30)))).bind fun c38 =>
              (some (!full7)).bind fun c39 =>
              (gdO ((!c38) && c39) (rdO c i20) (default : T_api_Covered)).bind fun x40 =>
              (some (c38 || (c39 && (x40.f_Much != 0)))).bind fun c41 =>
              (some (c41 || (decide (x29.f_Rank > rank18)))).bind fun c42 =>
              (some (x29.f_Rank == rank18)).bind fun c43 =>
              if (c42 || (c43 && (decide (x29.f_ID ≤ id19)))) = true then
                some (.inr (.inr false))
              else
                (gdO full7 (rdO c i20) (default : T_api_Covered)).bind fun x44 =>
                (rdO c i20).bind fun x45 =>
                some (.inl (IntKind.wrap .i64 (sum16 + x45.f_Much), (full7 && (x44.f_Much == x30)), x29.f_Rank, x29.f_ID, IntKind.wrap .i64 (i20 + 1)))
          else
            some (.inr (.inl sum16)) : Option ((Int × Bool × Int × Int × Int) ⊕ (Int ⊕ Bool)))) (F - covR now F pre, full, rank, id, (pre.length : Int)) = some (.inl (F - covR now F rs)) := by
  have hcl : c.length = rs.length := by rw [hc, covL_length]
  intro t
  induction t with
  | nil =>
    intro pre full rank id hp _ _
    rw [List.append_nil] at hp
    rw [loopO_out (o := Sum.inl (F - covR now F pre))]
    · rw [hp]
    · have : decide ((pre.length : Int) < (c.length : Int)) = false := by rw [hcl, hp]; simp
      simp only [this, Bool.false_eq_true, if_false]
  | cons h t ih =>
    intro pre full rank id hp hfull hrel
    have hrl : rs.length = pre.length + (t.length + 1) := by rw [hp]; simp
    obtain ⟨hm, hlv, hA, hC⟩ := hrs h (by rw [hp]; simp)
    obtain ⟨j, hj, hjh⟩ := List.getElem_of_mem hm
    have hlr := covR_range now pre F hF
    obtain ⟨left, hleft⟩ : ∃ left, left = covR now F pre := ⟨_, rfl⟩
    have hle := lesser_range (restH_range h now).1 (by rw [hleft]; exact hlr.1 : 0 ≤ left)
    have hrr := restH_range h now
    have hdec : c = covL now F pre ++ ⟨h.f_ID, lesser (restH h now) left⟩ :: covL now (left - lesser (restH h now) left) t := by
      rw [hc, hp, covL_append, ← hleft]; rfl
    have hrd : rdO c (pre.length : Int) = some ⟨h.f_ID, lesser (restH h now) left⟩ := by rw [hdec]; exact rd_mid (by rw [covL_length])
    have hat := rank_at hg hj (c := c) (ii := (pre.length : Int)) hrd (by rw [hjh])
    have hd : decide ((pre.length : Int) < (c.length : Int)) = true := by rw [hcl]; simp; omega
    have hjn : decide ((j : Int) < 0) = false := by simp
    have hx : rdO l (j : Int) = some h := by rw [rdO_at hj, hjh]
    have hA2 : (h.f_Acc != acc) = false := by rw [hA]; simp
    have hC2 : (h.f_Amount.f_Cur != cur) = false := by rw [hC]; simp
    have d1 : decide (lesser (restH h now) left < 0) = false := by simp; omega
    have d2 : decide (lesser (restH h now) left > restH h now) = false := by simp; omega
    have d3 : (!full && (lesser (restH h now) left != 0)) = false := by
      cases full with
      | true => rfl
      | false =>
        have : left = 0 := by rw [hleft]; exact hfull rfl
        have : lesser (restH h now) left = 0 := by omega
        rw [this]; rfl
    have hrel2 := hrel h t rfl
    have d4 : decide (h.f_Rank > rank) = false := by simp; omega
    have d5 : ((h.f_Rank == rank) && decide (h.f_ID ≤ id)) = false := by
      rw [Bool.eq_false_iff]
      intro q
      simp only [Bool.and_eq_true, beq_iff_eq, decide_eq_true_eq] at q
      omega
    have hcr : covR now F (pre ++ [h]) = left - lesser (restH h now) left := by rw [covR_append, ← hleft]; rfl
    have ew : IntKind.wrap .i64 (F - left + lesser (restH h now) left) = F - covR now F (pre ++ [h]) := by rw [hcr, wrap64 (by omega) (by omega)]; omega
    have e1 : IntKind.wrap .i64 ((pre.length : Int) + 1) = (((pre ++ [h]).length : Nat) : Int) := wN (by simp) (by simp; omega)
    have hbef : ∀ h2 t', t = h2 :: t' → h2.f_Rank < h.f_Rank ∨ (h2.f_Rank = h.f_Rank ∧ h.f_ID < h2.f_ID) := by
      intro h2 t' he
      have := hasc
      unfold Asc at this
      rw [hp, List.pairwise_append, List.pairwise_cons] at this
      have := this.2.1.1 h2 (by rw [he]; simp)
      unfold bef at this
      omega
    have := ih (pre ++ [h]) (full && (lesser (restH h now) left == restH h now)) h.f_Rank h.f_ID (by simp [hp]) (fun hfl => by
      rw [hcr]
      cases full with
      | false =>
        have : left = 0 := by rw [hleft]; exact hfull rfl
        omega
      | true =>
        simp only [Bool.true_and, beq_eq_false_iff_ne, ne_eq] at hfl
        unfold lesser at hfl ⊢
        split
        · rename_i q; rw [if_pos q] at hfl; exact absurd rfl hfl
        · omega) hbef
    rw [← this, ← hleft, loopO_on]
    simp only [hrd, Option.bind_some] at hat
    simp only [hd, if_true, hrd, hat, Option.bind_some, hjn, Bool.false_eq_true, if_false, hx, rest_eq, live_eq, hlv, Bool.not_true, hA2, Bool.or_self, hC2, gdO_some, Bool.not_false, cond_true, d1, d2, Bool.true_and, Bool.false_or, ew, e1]
    cases full with
    | true => simp only [Bool.not_true, Bool.false_and, cond_true, Bool.true_and, d4, Bool.or_self, Bool.false_or, d5, Bool.false_eq_true, if_false]
    | false =>
      have d3' : (lesser (restH h now) left != 0) = false := by simpa using d3
      simp only [Bool.not_false, Bool.true_and, cond_true, d3', Bool.or_self, d4, Bool.false_or, d5, Bool.false_eq_true, if_false, Bool.false_and]

theorem holdRank_law (l : List T_api_Hold) (x : T_cashbooklaw25_Ask) (_ : l.length ≤ maxLen ∧ ∀ x ∈ l, T_api_Hold.wf x) (hw : T_cashbooklaw25_Ask.wf x) : cashbooklaw25_HoldRank l x = some true := by
  have hfun : x.f_Funds < 9223372036854775808 := by
    have h1 : x.f_Funds ≤ 9223372036854775807 := hw.2.2.2.2.1.2
    omega
  unfold cashbooklaw25_HoldRank
  by_cases hn : l.length ≤ 300
  · have hlen : decide ((l.length : Int) > 300) = false := by simp; omega
    by_cases hb : chkH l = 0
    · have hg := chkH_good.1 hb
      have hfw := hg.few
      have hchk := check_eq l (show l.length < 4611686018427387904 by omega)
      rw [hb] at hchk
      obtain ⟨F, hF⟩ : ∃ F, F = (if 0 > x.f_Funds then 0 else x.f_Funds) := ⟨_, rfl⟩
      have hF0 : 0 ≤ F ∧ F < 9223372036854775808 := by rw [hF]; split <;> omega
      obtain ⟨rs, hrs⟩ : ∃ rs, rs = byRank (l.filter (selB x.f_Acc x.f_Cur x.f_Now)) 9 := ⟨_, rfl⟩
      have hperm : rs.Perm (l.filter (selB x.f_Acc x.f_Cur x.f_Now)) := by rw [hrs]; exact byRank_all (fun y hy => sel_rank hy)
      have hids : Ids (l.filter (selB x.f_Acc x.f_Cur x.f_Now)) := List.Pairwise.sublist List.filter_sublist (ids_of_rise hg.rise)
      have hasc : Asc rs := by rw [hrs]; exact asc_byRank hids 9
      have hplen := hperm.length_eq
      have hfl := List.length_filter_le (selB x.f_Acc x.f_Cur x.f_Now) l
      have hall : ∀ y ∈ rs, y ∈ l ∧ liveH y x.f_Now = true ∧ y.f_Acc = x.f_Acc ∧ y.f_Amount.f_Cur = x.f_Cur := by
        intro y hy
        have := hperm.mem_iff.1 hy
        rw [List.mem_filter] at this
        have h2 := this.2
        unfold selB at h2
        simp only [Bool.and_eq_true, beq_iff_eq] at h2
        exact ⟨this.1, h2.2.2, h2.1, h2.2.1⟩
      have hcov := cover_eq hg hfun x.f_Acc x.f_Cur x.f_Now
      rw [← hF, ← hrs] at hcov
      have hless := sum_less (acc := x.f_Acc) (cur := x.f_Cur) (now := x.f_Now) (rank := x.f_Rank) l hg.ok
      have hr0 := sumL_range x.f_Acc x.f_Cur x.f_Now x.f_Rank l
      rw [hlen, Option.bind_some]
      show (gdO true (hold_Check l) (default : Int)).bind _ = _
      rw [show gdO true (hold_Check l) (default : Int) = some 0 from hchk, Option.bind_some, if_neg (by simp), hcov, Option.bind_some, sum_eq hg, Option.bind_some, sum_eq hg, Option.bind_some]
      have g1 : decide (sumL l x.f_Acc x.f_Cur x.f_Now x.f_Rank > sumL l x.f_Acc x.f_Cur x.f_Now 0) = false := by simp; omega
      have g2 : decide (sumL l x.f_Acc x.f_Cur x.f_Now x.f_Rank < 0) = false := by simp; omega
      have g3 : (decide (x.f_Rank > 9) && (sumL l x.f_Acc x.f_Cur x.f_Now x.f_Rank != 0)) = false := by
        by_cases q : 9 < x.f_Rank
        · rw [sum_high q l hg.ok]; simp
        · have : decide (x.f_Rank > 9) = false := by simp; omega
          rw [this]; rfl
      show (some false).bind _ = _
      rw [Option.bind_some]
      show (some false).bind _ = _
      rw [Option.bind_some]
      show (some false).bind _ = _
      rw [Option.bind_some]
      show (some (false || decide (sumL l x.f_Acc x.f_Cur x.f_Now x.f_Rank > sumL l x.f_Acc x.f_Cur x.f_Now 0))).bind _ = _
      rw [g1, Option.bind_some]
      show (some (false || decide (sumL l x.f_Acc x.f_Cur x.f_Now x.f_Rank < 0))).bind _ = _
      rw [g2, Option.bind_some, Option.bind_some, if_neg (by show ¬ (false || (decide (x.f_Rank > 9) && (sumL l x.f_Acc x.f_Cur x.f_Now x.f_Rank != 0))) = true; rw [g3]; simp)]
      have hlp := rank_loop hg (acc := x.f_Acc) (cur := x.f_Cur) (now := x.f_Now) hall hasc (by omega) hF0.1 hF0.2 rfl rs [] true 10 0 rfl (by simp) (fun h t' he => by
        have := sel_rank (hperm.mem_iff.1 (show h ∈ rs by rw [he]; simp))
        omega)
      have e00 : F - covR x.f_Now F [] = 0 := by simp [covR]
      rw [e00] at hlp
      refine bind_at hlp ?_
      have hct := count_loop (l := l) (acc := x.f_Acc) (cur := x.f_Cur) (now := x.f_Now) (by omega)
      refine bind_at hct ?_
      rw [alive, Option.bind_some]
      have q1 : (((l.filter (selB x.f_Acc x.f_Cur x.f_Now)).length : Int) == ((covL x.f_Now F rs).length : Int)) = true := by rw [covL_length, hplen]; simp
      have q2 : (F - covR x.f_Now F rs == (if sumL l x.f_Acc x.f_Cur x.f_Now 0 < F then sumL l x.f_Acc x.f_Cur x.f_Now 0 else F)) = true := by
        rw [covR_sum _ _ _ hF0.1, sumR_perm hperm, sel_sum l hg.ok, beq_iff_eq]
        split <;> omega
      rw [hF] at q2
      show (some (true && (((l.filter (selB x.f_Acc x.f_Cur x.f_Now)).length : Int) == ((covL x.f_Now F rs).length : Int)))).bind _ = _
      rw [q1, Option.bind_some]
      rw [hF]
      show some (true && _) = some true
      rw [q2]
      rfl
    · have hne : (chkH l != 0) = true := by simpa using hb
      simp only [hlen, Option.bind_some, Bool.not_false, gdO, check_eq l (show l.length < 4611686018427387904 by omega), hne, Bool.or_true, if_true, alive]
  · have hlen : decide ((l.length : Int) > 300) = true := by simp; omega
    simp only [hlen, Option.bind_some, Bool.not_true, gdO, Bool.true_or, if_true, alive]

end Go.Av.G
