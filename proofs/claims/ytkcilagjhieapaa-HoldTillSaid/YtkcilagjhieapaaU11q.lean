/- HoldTill: what the law computes, by hand: it answers true. -/
import Derived.Test.YtkcilagjhieapaaUhx
set_option linter.unusedVariables false
set_option linter.unusedSimpArgs false
set_option maxRecDepth 4000
set_option maxHeartbeats 4000000
namespace Go.Av.G
open Go Go.Av Go.Proofs

theorem bind_at {α β : Type} {a : Option α} {x : α} {f : α → Option β} {o : Option β} (h : a = some x) (h2 : f x = o) : a.bind f = o := by subst h; exact h2

theorem wrap32 {x : Int} (h1 : -2147483648 ≤ x) (h2 : x < 2147483648) : IntKind.wrap .i32 x = x := by
  have hb : IntKind.bits .i32 = 32 := rfl
  have hs : IntKind.signed .i32 = true := rfl
  unfold IntKind.wrap
  simp only [hb, hs, Bool.true_and, decide_eq_true_eq]
  split <;> omega

theorem rise_of_ids {l : List T_api_Hold} (h : Ids l) : Rise (fun x : T_api_Hold => x.f_ID) l := by
  intro i hi
  exact (List.pairwise_iff_getElem.1 h) i (i + 1) (by omega) hi (by omega)

theorem mem_insH {h y : T_api_Hold} : ∀ {l : List T_api_Hold}, y ∈ insH h l → y = h ∨ y ∈ l
  | [], hy => .inl (by simpa [insH] using hy)
  | x :: t, hy => by
    by_cases hc : h.f_ID < x.f_ID
    · have e : insH h (x :: t) = h :: x :: t := by show (if h.f_ID < x.f_ID then h :: x :: t else x :: insH h t) = _; rw [if_pos hc]
      rw [e] at hy
      rcases List.mem_cons.1 hy with q | q
      · exact .inl q
      · exact .inr q
    · have e : insH h (x :: t) = x :: insH h t := by show (if h.f_ID < x.f_ID then h :: x :: t else x :: insH h t) = _; rw [if_neg hc]
      rw [e] at hy
      rcases List.mem_cons.1 hy with q | q
      · exact .inr (by simp [q])
      · rcases mem_insH q with q | q
        · exact .inl q
        · exact .inr (by simp [q])

theorem ids_insH {h : T_api_Hold} : ∀ {l : List T_api_Hold}, Ids l → (∀ x ∈ l, x.f_ID ≠ h.f_ID) → Ids (insH h l)
  | [], _, _ => by unfold Ids insH; simp
  | x :: t, hl, hn => by
    unfold Ids at hl
    rw [List.pairwise_cons] at hl
    have hx := hn x (by simp)
    by_cases hc : h.f_ID < x.f_ID
    · have e : insH h (x :: t) = h :: x :: t := by show (if h.f_ID < x.f_ID then h :: x :: t else x :: insH h t) = _; rw [if_pos hc]
      rw [e]
      unfold Ids
      rw [List.pairwise_cons, List.pairwise_cons]
      refine ⟨fun y hy => ?_, hl⟩
      rcases List.mem_cons.1 hy with rfl | hy
      · exact hc
      · have := hl.1 y hy; omega
    · have e : insH h (x :: t) = x :: insH h t := by show (if h.f_ID < x.f_ID then h :: x :: t else x :: insH h t) = _; rw [if_neg hc]
      rw [e]
      unfold Ids
      rw [List.pairwise_cons]
      refine ⟨fun y hy => ?_, ids_insH hl.2 (fun y hy => hn y (by simp [hy]))⟩
      rcases mem_insH hy with rfl | hy
      · omega
      · exact hl.1 y hy

theorem good_insH {l : List T_api_Hold} (hg : GoodL l) {h : T_api_Hold} (ho : okH h = true) (hn : ∀ x ∈ l, x.f_ID ≠ h.f_ID) (hf : l.length < 200) : GoodL (insH h l) := by
  refine ⟨fun x hx => ?_, rise_of_ids (ids_insH (ids_of_rise hg.rise) hn), by rw [insH_length]; omega⟩
  rcases mem_insH hx with rfl | hx
  · exact ho
  · exact hg.ok x hx

theorem sumL_insH (acc cur now rank : Int) (h : T_api_Hold) : ∀ l : List T_api_Hold, sumL (insH h l) acc cur now rank = sumL l acc cur now rank + wH acc cur now rank h
  | [] => by simp [sumL, insH]
  | x :: t => by
    have ih := sumL_insH acc cur now rank h t
    show sumL (if h.f_ID < x.f_ID then h :: x :: t else x :: insH h t) acc cur now rank = _
    unfold sumL at ih ⊢
    split
    · simp only [List.map_cons, List.sum_cons]; omega
    · simp only [List.map_cons, List.sum_cons]; omega

theorem sumL_set (acc cur now rank : Int) (y : T_api_Hold) : ∀ (l : List T_api_Hold) (i : Nat) (hi : i < l.length), sumL (l.set i y) acc cur now rank = sumL l acc cur now rank - wH acc cur now rank l[i] + wH acc cur now rank y
  | [], i, hi => by simp at hi
  | x :: t, 0, hi => by
    unfold sumL
    simp only [List.set_cons_zero, List.map_cons, List.sum_cons, List.getElem_cons_zero]
    omega
  | x :: t, i + 1, hi => by
    have ih := sumL_set acc cur now rank y t i (by simpa using hi)
    unfold sumL at ih ⊢
    simp only [List.set_cons_succ, List.map_cons, List.sum_cons, List.getElem_cons_succ]
    omega

theorem good_set {l : List T_api_Hold} (hg : GoodL l) {i : Nat} (hi : i < l.length) {y : T_api_Hold} (ho : okH y = true) (he : y.f_ID = l[i].f_ID) : GoodL (l.set i y) := by
  refine ⟨fun x hx => ?_, fun j hj => ?_, by simpa using hg.few⟩
  · rcases List.mem_or_eq_of_mem_set hx with h | h
    · exact hg.ok x h
    · subst h; exact ho
  · simp only [List.length_set] at hj
    have := hg.rise j hj
    rw [List.getElem_set, List.getElem_set]
    split
    · rename_i h1
      subst h1
      split
      · omega
      · simp only [he]; exact this
    · split
      · rename_i h2
        subst h2
        simp only [he]; exact this
      · exact this

theorem rel_ok (h : T_api_Hold) : okH (relH h) = okH h := rfl
theorem rel_live (h : T_api_Hold) (now : Int) : liveH (relH h) now = false := by unfold liveH relH; simp
theorem rel_wH (acc cur now rank : Int) (h : T_api_Hold) : wH acc cur now rank (relH h) = 0 := by
  unfold wH restH
  rw [rel_live]
  split <;> rfl

theorem till_loop {l : List T_api_Hold} (hg : GoodL l) {i : Nat} (hi : i < l.length) {acc cur now rank : Int} :
    loopO (fun (qj11 : Int × Int) => match qj11 with
        | (off12, k13) => (
          (some (decide (k13 < (l.length : Int)))).bind fun c14 =>
          if (c14 && (((l.set i (relH l[i])).length : Int) == (l.length : Int))) = true then
            (rdO l k13).bind fun x15 =>
            (some (x15.f_ID == l[i].f_ID)).bind fun c16 =>
            (gdO c16 (rdO l k13) (default : T_api_Hold)).bind fun x17 =>
            (some (c16 && (x17.f_Acc == acc))).bind fun c18 =>
            (gdO c18 (rdO l k13) (default : T_api_Hold)).bind fun x19 =>
            (some (c18 && (x19.f_Amount.f_Cur == cur))).bind fun c20 =>
            (gdO c20 (rdO l k13) (default : T_api_Hold)).bind fun x21 =>
            ((if (c20 && (decide (x21.f_Rank ≥ rank))) = true then
              (rdO l k13).bind fun x23 =>
              (hold_Rest x23 now).bind fun x24 =>
              some x24
            else
              some off12) : Option Int).bind fun j22 =>
            (rdO l k13).bind fun x26 =>
            (some (x26.f_ID == l[i].f_ID)).bind fun c27 =>
            (gdO c27 (rdO (l.set i (relH l[i])) k13) (default : T_api_Hold)).bind fun x28 =>
            (gdO c27 (hold_Live x28 now) (default : Bool)).bind fun x29 =>
            (gdO (c27 && (!x29)) (rdO (l.set i (relH l[i])) k13) (default : T_api_Hold)).bind fun x30 =>
            (some (c27 && (x29 || (!x30.f_Done)))).bind fun c31 =>
            (gdO (!c31) (rdO l k13) (default : T_api_Hold)).bind fun x32 =>
            (some (x32.f_ID != l[i].f_ID)).bind fun c33 =>
            (gdO ((!c31) && c33) (rdO (l.set i (relH l[i])) k13) (default : T_api_Hold)).bind fun x34 =>
            (gdO ((!c31) && c33) (rdO l k13) (default : T_api_Hold)).bind fun x35 =>
            if (c31 || (c33 && (!(T_api_Hold.same x34 x35)))) = true then
              some (.inr (.inr (.inr false)))
            else
              some (.inl (j22, IntKind.wrap .i64 (k13 + 1)))
          else
            some (.inr (.inl off12)) : Option ((Int × Int) ⊕ (Int ⊕ (Unit ⊕ Bool))))) (0, 0) = some (.inl (wH acc cur now rank l[i])) := by
  have hf := hg.few
  have hlen : (((l.set i (relH l[i])).length : Int) == (l.length : Int)) = true := by simp
  refine Eq.trans (b := loopO _ ((fun k : Nat => ((if i < k then wH acc cur now rank l[i] else 0), (k : Int))) 0)) rfl (loopG (n := l.length) (fun k : Nat => ((if i < k then wH acc cur now rank l[i] else 0), (k : Int))) (fun k hk => ?_) ?_)
  · have hd : decide ((k : Int) < (l.length : Int)) = true := by simp; omega
    have e1 : IntKind.wrap .i64 ((k : Int) + 1) = ((k + 1 : Nat) : Int) := wN (by omega) (by omega)
    have hk2 : k < (l.set i (relH l[i])).length := by simpa using hk
    by_cases hki : k = i
    · subst hki
      have hs : rdO (l.set k (relH l[k])) (k : Int) = some (relH l[k]) := by rw [rdO_at hk2]; simp
      have hdn : (relH l[k]).f_Done = true := rfl
      simp only [hd, hlen, Bool.and_self, if_true, rdO_at hk, hs, Option.bind_some, gdO_some, beq_self_eq_true, cond_true, Bool.true_and, live_eq, rel_live, hdn, Bool.not_true, Bool.not_false, Bool.or_self, Bool.false_or, Bool.or_false, cond_false, Bool.and_false, bne_self_eq_false, Bool.false_and, Bool.false_eq_true, if_false, rest_eq, e1]
      rw [if_neg (Nat.lt_irrefl k), if_pos (Nat.lt_succ_self k)]
      unfold wH
      by_cases ha : l[k].f_Acc = acc
      · have ba : (l[k].f_Acc == acc) = true := by simpa using ha
        simp only [ba, cond_true, Bool.true_and]
        by_cases hc : l[k].f_Amount.f_Cur = cur
        · have bc : (l[k].f_Amount.f_Cur == cur) = true := by simpa using hc
          simp only [bc, cond_true, Bool.true_and, decide_eq_true_eq, ge_iff_le]
          by_cases hr : rank ≤ l[k].f_Rank
          · rw [if_pos hr, if_pos ⟨ha, hc, hr⟩]
            rfl
          · rw [if_neg hr, if_neg (fun q => hr q.2.2)]
            rfl
        · have bc : (l[k].f_Amount.f_Cur == cur) = false := by simpa using hc
          simp only [bc, cond_false, Bool.false_and, Bool.false_eq_true, if_false]
          rw [if_neg (fun q => hc q.2.1)]
          rfl
      · have ba : (l[k].f_Acc == acc) = false := by simpa using ha
        simp only [ba, cond_false, Bool.false_and, Bool.false_eq_true, if_false]
        rw [if_neg (fun q => ha q.1)]
        rfl
    · have hs : rdO (l.set i (relH l[i])) (k : Int) = some l[k] := by rw [rdO_at hk2, List.getElem_set_ne (by omega)]
      have hid : l[k].f_ID ≠ l[i].f_ID := fun q => hki (hg.rise.inj hk hi q)
      have hb : (l[k].f_ID == l[i].f_ID) = false := by simpa using hid
      have hb2 : (l[k].f_ID != l[i].f_ID) = true := by simpa using hid
      have hsame : T_api_Hold.same l[k] l[k] = true := by rw [T_api_Hold.same_iff]; simp
      simp only [hd, hlen, Bool.and_self, if_true, rdO_at hk, hs, Option.bind_some, gdO_some, hb, hb2, cond_true, cond_false, Bool.false_and, Bool.true_and, Bool.false_eq_true, if_false, Bool.not_false, hsame, Bool.not_true, Bool.or_self, Bool.and_false, e1, live_eq]
      have : (if i < k then wH acc cur now rank l[i] else 0) = (if i < k + 1 then wH acc cur now rank l[i] else 0) := by
        by_cases q : i < k
        · rw [if_pos q, if_pos (by omega)]
        · rw [if_neg q, if_neg (by omega)]
      rw [this]
  · have hd : decide ((l.length : Int) < (l.length : Int)) = false := by simp
    simp only [hd, Bool.false_and, Bool.false_eq_true, if_false, Option.bind_some, hi, if_true]

theorem holdTill_law (l : List T_api_Hold) (x : T_cashbooklaw25_Ask) (id : Int) (_ : l.length ≤ maxLen ∧ ∀ x ∈ l, T_api_Hold.wf x) (hw : T_cashbooklaw25_Ask.wf x) (_ : inR .i64 id) : cashbooklaw25_HoldTill l x id = some true := by
  unfold cashbooklaw25_HoldTill
  by_cases hn : l.length ≤ 300
  · have hlen : decide ((l.length : Int) > 300) = false := by simp; omega
    by_cases hb : chkH l = 0
    · have hg := chkH_good.1 hb
      have hfw := hg.few
      have hchk := check_eq l (show l.length < 4611686018427387904 by omega)
      rw [hb] at hchk
      rw [hlen, Option.bind_some]
      show (gdO true (hold_Check l) (default : Int)).bind _ = _
      rw [show gdO true (hold_Check l) (default : Int) = some 0 from hchk, Option.bind_some, if_neg (by simp), sum_eq hg, Option.bind_some]
      -- the release
      have hrel : ∃ r : List T_api_Hold × Int, hold_Release l id = some r ∧ ((if (r.2 == 0) = true then
      (hold_Sum r.1 x.f_Acc x.f_Cur x.f_Now x.f_Rank).bind fun x10 =>
      ((loopO (fun (qj11 : Int × Int) => match qj11 with
        | (off12, k13) => (
          (some (decide (k13 < (l.length : Int)))).bind fun c14 =>
          if (c14 && ((r.1.length : Int) == (l.length : Int))) = true then
            (rdO l k13).bind fun x15 =>
            (some (x15.f_ID == id)).bind fun c16 =>
            (gdO c16 (rdO l k13) (default : T_api_Hold)).bind fun x17 =>
            (some (c16 && (x17.f_Acc == x.f_Acc))).bind fun c18 =>
            (gdO c18 (rdO l k13) (default : T_api_Hold)).bind fun x19 =>
            (some (c18 && (x19.f_Amount.f_Cur == x.f_Cur))).bind fun c20 =>
            (gdO c20 (rdO l k13) (default : T_api_Hold)).bind fun x21 =>
            ((if (c20 && (decide (x21.f_Rank ≥ x.f_Rank))) = true then
              (rdO l k13).bind fun x23 =>
              (hold_Rest x23 x.f_Now).bind fun x24 =>
              some x24
            else
              some off12) : Option Int).bind fun j22 =>
            (rdO l k13).bind fun x26 =>
            (some (x26.f_ID == id)).bind fun c27 =>
            (gdO c27 (rdO r.1 k13) (default : T_api_Hold)).bind fun x28 =>
            (gdO c27 (hold_Live x28 x.f_Now) (default : Bool)).bind fun x29 =>
            (gdO (c27 && (!x29)) (rdO r.1 k13) (default : T_api_Hold)).bind fun x30 =>
            (some (c27 && (x29 || (!x30.f_Done)))).bind fun c31 =>
            (gdO (!c31) (rdO l k13) (default : T_api_Hold)).bind fun x32 =>
            (some (x32.f_ID != id)).bind fun c33 =>
            (gdO ((!c31) && c33) (rdO r.1 k13) (default : T_api_Hold)).bind fun x34 =>
            (gdO ((!c31) && c33) (rdO l k13) (default : T_api_Hold)).bind fun x35 =>
            if (c31 || (c33 && (!(T_api_Hold.same x34 x35)))) = true then
              some (.inr (.inr (.inr false)))
            else
              some (.inl (j22, IntKind.wrap .i64 (k13 + 1)))
          else
            some (.inr (.inl off12)) : Option ((Int × Int) ⊕ (Int ⊕ (Unit ⊕ Bool))))) (0, 0)) : Option (Int ⊕ (Unit ⊕ Bool))).bind fun j11 => match j11 with
      | .inr o => some o
      | .inl off36 =>
      (some (x10.2 != 0)).bind fun c37 =>
      (some (c37 || (x10.1 != (IntKind.wrap .i64 ((sumL l x.f_Acc x.f_Cur x.f_Now x.f_Rank) - off36))))).bind fun c38 =>
      if (c38 || ((r.1.length : Int) != (l.length : Int))) = true then
        some (.inr false)
      else
        some (.inl ())
    else
      some (.inl ())) : Option (Unit ⊕ Bool)) = some (.inl ()) := by
        cases h : l.any fun x => x.f_ID == id with
        | false => exact ⟨_, rel_none hg (any_id.1 h), rfl⟩
        | true =>
          obtain ⟨i, hi, rfl⟩ := id_at h
          refine ⟨_, rel_at hg hi, ?_⟩
          unfold relL
          by_cases hd : l[i].f_Done = true
          · rw [if_pos hd]; rfl
          · rw [if_neg hd]
            have hg2 : GoodL (l.set i (relH l[i])) := good_set hg hi (by rw [rel_ok]; exact hg.ok _ (List.getElem_mem hi)) rfl
            have hsr := sumL_range x.f_Acc x.f_Cur x.f_Now x.f_Rank l
            have hwr := wH_range x.f_Acc x.f_Cur x.f_Now x.f_Rank l[i]
            have hs2 := sumL_set x.f_Acc x.f_Cur x.f_Now x.f_Rank (relH l[i]) l i hi
            rw [rel_wH] at hs2
            have ew : IntKind.wrap .i64 (sumL l x.f_Acc x.f_Cur x.f_Now x.f_Rank - wH x.f_Acc x.f_Cur x.f_Now x.f_Rank l[i]) = sumL (l.set i (relH l[i])) x.f_Acc x.f_Cur x.f_Now x.f_Rank := by rw [wrap64 (by omega) (by omega)]; omega
            have hl2 : (((l.set i (relH l[i])).length : Int) != (l.length : Int)) = false := by simp
            show (if ((0 : Int) == 0) = true then _ else _) = _
            rw [if_pos (show ((0 : Int) == 0) = true from rfl)]
            show (hold_Sum (l.set i (relH l[i])) x.f_Acc x.f_Cur x.f_Now x.f_Rank).bind _ = _
            rw [sum_eq hg2, Option.bind_some]
            have hlp := till_loop hg hi (acc := x.f_Acc) (cur := x.f_Cur) (now := x.f_Now) (rank := x.f_Rank)
            show Option.bind (loopO _ ((0 : Int), (0 : Int))) _ = _
            rw [hlp]
            simp only [Option.bind_some, bne_self_eq_false, Bool.false_or, ew, hl2, Bool.false_eq_true, if_false]
      obtain ⟨r, hr1, hr2⟩ := hrel
      rw [hr1, Option.bind_some]
      refine bind_at hr2 ?_
      show (hold_Add l x.f_H).bind _ = _
      rw [add_eq hg, Option.bind_some]
      have hadd : (addH l x.f_H).2 = 0 → okH x.f_H = true ∧ (∀ y ∈ l, y.f_ID ≠ x.f_H.f_ID) ∧ l.length < 200 ∧ (addH l x.f_H).1 = insH x.f_H l := by
        intro h
        unfold addH at h ⊢
        split at h
        · cases h
        · rename_i h1
          split at h
          · cases h
          · rename_i h2
            split at h
            · cases h
            · rename_i h3
              rw [if_neg h1, if_neg h2, if_neg h3]
              simp only [Bool.or_eq_true, not_or, Bool.not_eq_true', Bool.not_eq_false] at h1
              exact ⟨h1.1.1, any_id.1 (by simpa using h2), by omega, rfl⟩
      have hlast : (((hold_Rest x.f_H (IntKind.wrap .i32 (x.f_H.f_Made - 1))).bind fun x49 =>
    (some (x49 == 0)).bind fun c50 =>
    (gdO c50 (hold_Rest x.f_H (IntKind.wrap .i32 (x.f_H.f_Until + 1))) (default : Int)).bind fun x51 =>
    (cashbooklaw25_alive).bind fun x52 =>
    (some (x52 && ((0 : Int) == 0))).bind fun c53 =>
    some (c53 && (c50 && (x51 == 0)))) : Option Bool) = some true := by
        have r1 : restH x.f_H (IntKind.wrap .i32 (x.f_H.f_Made - 1)) = 0 := by
          unfold restH
          rw [if_neg]
          intro hl
          have ho := okH_spec (live_ok hl)
          unfold liveH at hl
          rw [wrap32 (by omega) (by omega)] at hl
          simp only [Bool.and_eq_true, decide_eq_true_eq] at hl
          omega
        have r2 : restH x.f_H (IntKind.wrap .i32 (x.f_H.f_Until + 1)) = 0 := by
          unfold restH
          rw [if_neg]
          intro hl
          have ho := okH_spec (live_ok hl)
          unfold liveH at hl
          rw [wrap32 (by omega) (by omega)] at hl
          simp only [Bool.and_eq_true, decide_eq_true_eq] at hl
          omega
        simp only [rest_eq, r1, r2, Option.bind_some, beq_self_eq_true, gdO, alive, Bool.and_self]
      by_cases h0 : (addH l x.f_H).2 = 0
      · obtain ⟨a1, a2, a3, a4⟩ := hadd h0
        have hg3 := good_insH hg a1 a2 a3
        have hsr := sumL_range x.f_Acc x.f_Cur x.f_Now x.f_Rank l
        have hwr := wH_range x.f_Acc x.f_Cur x.f_Now x.f_Rank x.f_H
        have hon : ((if ((x.f_H.f_Acc == x.f_Acc && (x.f_H.f_Amount.f_Cur == x.f_Cur)) && (decide (x.f_H.f_Rank ≥ x.f_Rank))) = true then
        (hold_Rest x.f_H x.f_Now).bind fun x45 =>
        some x45
      else
        some 0) : Option Int) = some (wH x.f_Acc x.f_Cur x.f_Now x.f_Rank x.f_H) := by
          rw [rest_eq]
          unfold wH
          by_cases hc : x.f_H.f_Acc = x.f_Acc ∧ x.f_H.f_Amount.f_Cur = x.f_Cur ∧ x.f_Rank ≤ x.f_H.f_Rank
          · rw [if_pos (by simp [hc.1, hc.2.1, hc.2.2]), if_pos hc]; rfl
          · rw [if_neg (by simp only [Bool.and_eq_true, beq_iff_eq, decide_eq_true_eq, ge_iff_le]; exact fun q => hc ⟨q.1.1, q.1.2, q.2⟩), if_neg hc]
        have ew : IntKind.wrap .i64 (sumL l x.f_Acc x.f_Cur x.f_Now x.f_Rank + wH x.f_Acc x.f_Cur x.f_Now x.f_Rank x.f_H) = sumL (insH x.f_H l) x.f_Acc x.f_Cur x.f_Now x.f_Rank := by
          rw [wrap64 (by omega) (by omega), sumL_insH]
        have el : IntKind.wrap .i64 ((l.length : Int) + 1) = ((insH x.f_H l).length : Int) := by rw [insH_length]; exact wN rfl (by omega)
        refine bind_at (x := (Sum.inl () : Unit ⊕ Bool)) ?_ hlast
        rw [h0, a4, if_pos (show ((0 : Int) == 0) = true from rfl), sum_eq hg3, Option.bind_some, Option.bind_some, Option.bind_some]
        refine bind_at hon ?_
        simp only [Option.bind_some, ew, el, bne_self_eq_false, Bool.or_self, Bool.false_eq_true, if_false]
      · refine bind_at (x := (Sum.inl () : Unit ⊕ Bool)) ?_ hlast
        rw [if_neg (by simpa using h0)]
    · have hne : (chkH l != 0) = true := by simpa using hb
      simp only [hlen, Option.bind_some, Bool.not_false, gdO, check_eq l (show l.length < 4611686018427387904 by omega), hne, Bool.or_true, if_true, alive]
  · have hlen : decide ((l.length : Int) > 300) = true := by simp; omega
    simp only [hlen, Option.bind_some, Bool.not_true, gdO, Bool.true_or, if_true, alive]

end Go.Av.G
