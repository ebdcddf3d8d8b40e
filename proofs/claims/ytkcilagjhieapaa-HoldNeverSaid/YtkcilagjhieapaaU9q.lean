/- HoldNever: what the law computes, by hand: it answers true. -/
import Derived.Test.YtkcilagjhieapaaUhx
set_option linter.unusedVariables false
set_option linter.unusedSimpArgs false
set_option maxRecDepth 4000
set_option maxHeartbeats 4000000
namespace Go.Av.G
open Go Go.Av Go.Proofs

theorem bind_at {α β : Type} {a : Option α} {x : α} {f : α → Option β} {o : Option β} (h : a = some x) (h2 : f x = o) : a.bind f = o := by subst h; exact h2

theorem good_set {l : List T_api_Hold} (hg : GoodL l) {i : Nat} (hi : i < l.length) {y : T_api_Hold} (ho : okH y = true) (he : y.f_ID = l[i].f_ID) : GoodL (l.set i y) := by
  refine ⟨fun x hx => ?_, fun j hj => ?_, by simpa using hg.few⟩
  · rcases List.mem_or_eq_of_mem_set hx with h | h
    · exact hg.ok x h
    · subst h; exact ho
  · simp only [List.length_set] at hj
    have := hg.rise j hj
    rw [List.getElem_set, List.getElem_set]
    split
    · rename_i h1
      subst h1
      split
      · omega
      · simp only [he]; exact this
    · split
      · rename_i h2
        subst h2
        simp only [he]; exact this
      · exact this

theorem cap_ok {h : T_api_Hold} {a : T_api_Money} {now : Int} {last : Bool} (hl : liveH h now = true) (hp : 0 < a.f_Minor) (hr : a.f_Minor ≤ restH h now) : okH (capH h a last) = true := by
  have ho := okH_spec (live_ok hl)
  unfold restH at hr
  rw [if_pos hl] at hr
  unfold okH capH
  simp only [decide_eq_true_eq]
  omega

theorem cap_rest {h : T_api_Hold} {a : T_api_Money} {now : Int} {last : Bool} (hl : liveH h now = true) (hp : 0 < a.f_Minor) (hr : a.f_Minor ≤ restH h now) : restH (capH h a last) now = if (capH h a last).f_Done = true then 0 else restH h now - a.f_Minor := by
  have hk := cap_ok (last := last) hl hp hr
  have hm : h.f_Made ≤ now ∧ now ≤ h.f_Until := by
    unfold liveH at hl
    simp only [Bool.and_eq_true, decide_eq_true_eq] at hl
    exact hl.2
  have hrest : restH h now = h.f_Amount.f_Minor - h.f_Taken := by unfold restH; rw [if_pos hl]
  rw [hrest]
  unfold restH liveH
  rw [hk]
  have e1 : (capH h a last).f_Made = h.f_Made := rfl
  have e2 : (capH h a last).f_Until = h.f_Until := rfl
  have e3 : (capH h a last).f_Amount = h.f_Amount := rfl
  have e4 : (capH h a last).f_Taken = h.f_Taken + a.f_Minor := rfl
  rw [e1, e2, e3, e4]
  cases (capH h a last).f_Done with
  | true => simp
  | false =>
    simp only [Bool.true_and, Bool.not_false, decide_eq_true_eq, hm, and_self, if_true, Bool.false_eq_true, if_false]
    omega

theorem never_in {l : List T_api_Hold} (hg : GoodL l) {i : Nat} (hi : i < l.length) {t : T_cashbooklaw25_Take} (hid : l[i].f_ID = t.f_ID) (hl : liveH l[i] t.f_Now = true) (hp : 0 < t.f_Amount.f_Minor) (hr : t.f_Amount.f_Minor ≤ restH l[i] t.f_Now) :
    loopO (fun (qj15 : Int) => match qj15 with
                | k16 => (
                  if (decide (k16 < (l.length : Int))) = true then
                    (((rdO l k16).bind fun x18 =>
                    (rdO (l.set i (capH l[i] t.f_Amount t.f_Last)) k16).bind fun x19 =>
                    (some (x18.f_ID != t.f_ID)).bind fun c20 =>
                    if (c20 && (!(T_api_Hold.same x18 x19))) = true then
                      some (.inr (.inr (.inr (.inr (.inr (.inr false))))))
                    else
                      if (x18.f_ID != t.f_ID) = true then
                        some (.inl ())
                      else
                        (hold_Rest x18 t.f_Now).bind fun x21 =>
                        (some x18.f_Done).bind fun c22 =>
                        (some (c22 || (decide (t.f_Amount.f_Minor < 1)))).bind fun c23 =>
                        (some (c23 || (decide (t.f_Amount.f_Minor > x21)))).bind fun c24 =>
                        (some (c24 || (x19.f_Taken != (IntKind.wrap .i64 (x18.f_Taken + t.f_Amount.f_Minor))))).bind fun c25 =>
                        (some (c25 || (decide (x19.f_Taken > x18.f_Amount.f_Minor)))).bind fun c26 =>
                        (some (c26 || (!(T_api_Money.same x19.f_Amount x18.f_Amount)))).bind fun c27 =>
                        (some t.f_Last).bind fun c28 =>
                        (some (c27 || (!(x19.f_Done == (c28 || (x19.f_Taken == x19.f_Amount.f_Minor)))))).bind fun c29 =>
                        (some (!x19.f_Done)).bind fun c30 =>
                        (gdO ((!c29) && c30) (hold_Rest x19 t.f_Now) (default : Int)).bind fun x31 =>
                        (some (c29 || (c30 && (x31 != (IntKind.wrap .i64 (x21 - t.f_Amount.f_Minor)))))).bind fun c32 =>
                        (some x19.f_Done).bind fun c33 =>
                        (gdO ((!c32) && c33) (hold_Rest x19 t.f_Now) (default : Int)).bind fun x34 =>
                        if (c32 || (c33 && (x34 != 0))) = true then
                          some (.inr (.inr (.inr (.inr (.inr (.inr false))))))
                        else
                          some (.inl ())) : Option (Unit ⊕ (Int ⊕ (Unit ⊕ ((List T_api_Hold) ⊕ (((List T_api_Hold) × Int) ⊕ (Unit ⊕ Bool))))))).bind fun j17 => match j17 with
                    | .inr o => some o
                    | .inl _ =>
                    some (.inl (IntKind.wrap .i64 (k16 + 1)))
                  else
                    some (.inr (.inl ())) : Option (Int ⊕ (Unit ⊕ ((List T_api_Hold) ⊕ (((List T_api_Hold) × Int) ⊕ (Unit ⊕ Bool))))))) 0 = some (.inl ()) := by
  have hf := hg.few
  refine Eq.trans (b := loopO _ ((fun k : Nat => (k : Int)) 0)) rfl (loopG (n := l.length) (fun k : Nat => (k : Int)) (fun k hk => ?_) ?_)
  · have hd : decide ((k : Int) < (l.length : Int)) = true := by simp; omega
    have e1 : IntKind.wrap .i64 ((k : Int) + 1) = ((k + 1 : Nat) : Int) := wN (by omega) (by omega)
    have hk2 : k < (l.set i (capH l[i] t.f_Amount t.f_Last)).length := by simpa using hk
    by_cases hki : k = i
    · subst hki
      have hs : rdO (l.set k (capH l[k] t.f_Amount t.f_Last)) (k : Int) = some (capH l[k] t.f_Amount t.f_Last) := by rw [rdO_at hk2]; simp
      have hb : (l[k].f_ID != t.f_ID) = false := by rw [hid]; simp
      have ho := okH_spec (live_ok hl)
      have hrest : restH l[k] t.f_Now = l[k].f_Amount.f_Minor - l[k].f_Taken := by unfold restH; rw [if_pos hl]
      have hdn : l[k].f_Done = false := by
        unfold liveH at hl
        simp only [Bool.and_eq_true, Bool.not_eq_true'] at hl
        exact hl.1.2
      have d1 : decide (t.f_Amount.f_Minor < 1) = false := by simp; omega
      have d2 : decide (t.f_Amount.f_Minor > restH l[k] t.f_Now) = false := by simp; omega
      have w1 : IntKind.wrap .i64 (l[k].f_Taken + t.f_Amount.f_Minor) = l[k].f_Taken + t.f_Amount.f_Minor := wrap64 (by omega) (by omega)
      have w2 : IntKind.wrap .i64 (restH l[k] t.f_Now - t.f_Amount.f_Minor) = restH l[k] t.f_Now - t.f_Amount.f_Minor := wrap64 (by omega) (by omega)
      have f1 : (capH l[k] t.f_Amount t.f_Last).f_Taken = l[k].f_Taken + t.f_Amount.f_Minor := rfl
      have f2 : (capH l[k] t.f_Amount t.f_Last).f_Amount = l[k].f_Amount := rfl
      have f3 : ((capH l[k] t.f_Amount t.f_Last).f_Done == (t.f_Last || (l[k].f_Taken + t.f_Amount.f_Minor == l[k].f_Amount.f_Minor))) = true := by unfold capH; simp
      have d3 : decide (l[k].f_Taken + t.f_Amount.f_Minor > l[k].f_Amount.f_Minor) = false := by simp; omega
      have hsm : T_api_Money.same l[k].f_Amount l[k].f_Amount = true := by rw [T_api_Money.same_iff]; simp
      have hcr := cap_rest (last := t.f_Last) hl hp hr
      simp only [hd, if_true, rdO_at hk, hs, Option.bind_some, hb, Bool.false_and, Bool.false_eq_true, if_false, rest_eq, hdn, d1, d2, Bool.or_self, f1, w1, bne_self_eq_false, f2, d3, hsm, Bool.not_true, f3, gdO_some, Bool.not_false, Bool.true_and, Bool.false_or, w2, e1]
      generalize (capH l[k] t.f_Amount t.f_Last).f_Done = D at hcr ⊢
      cases D with
      | true =>
        rw [if_pos rfl] at hcr
        simp only [hcr, Bool.not_true, Bool.false_and, cond_false, cond_true, Bool.not_false, bne_self_eq_false, Bool.and_false, Bool.or_self, Bool.false_eq_true, if_false, Option.bind_some, Bool.and_self]
      | false =>
        rw [if_neg (by simp)] at hcr
        simp only [hcr, Bool.not_false, cond_true, bne_self_eq_false, Bool.and_false, Bool.false_and, Bool.or_self, Bool.false_eq_true, if_false, Option.bind_some, cond_false]
    · have hs : rdO (l.set i (capH l[i] t.f_Amount t.f_Last)) (k : Int) = some l[k] := by rw [rdO_at hk2, List.getElem_set_ne (by omega)]
      have hne : l[k].f_ID ≠ t.f_ID := fun q => hki (hg.rise.inj hk hi (by rw [hid]; exact q))
      have hb2 : (l[k].f_ID != t.f_ID) = true := by simpa using hne
      have hsame : T_api_Hold.same l[k] l[k] = true := by rw [T_api_Hold.same_iff]; simp
      simp only [hd, if_true, rdO_at hk, hs, Option.bind_some, hb2, hsame, Bool.not_true, Bool.and_false, Bool.false_eq_true, if_false, e1]
  · have hd : decide ((l.length : Int) < (l.length : Int)) = false := by simp
    simp only [hd, Bool.false_eq_true, if_false]

/-- What an amount that is taken leads to. -/
theorem cap_cases {l : List T_api_Hold} (hg : GoodL l) (t : T_cashbooklaw25_Take) : (∃ r, hold_Capture l t.f_ID t.f_Amount t.f_Now t.f_Last = some r ∧ r.2 ≠ 0) ∨
    ∃ (i : Nat) (hi : i < l.length), hold_Capture l t.f_ID t.f_Amount t.f_Now t.f_Last = some (l.set i (capH l[i] t.f_Amount t.f_Last), 0) ∧ l[i].f_ID = t.f_ID ∧ liveH l[i] t.f_Now = true ∧ 0 < t.f_Amount.f_Minor ∧ t.f_Amount.f_Minor ≤ restH l[i] t.f_Now := by
  cases h : l.any fun x => x.f_ID == t.f_ID with
  | false => exact .inl ⟨_, cap_none hg (any_id.1 h) _ _ _, by simp⟩
  | true =>
    obtain ⟨i, hi, he⟩ := id_at h
    have hc := cap_at hg hi t.f_Amount t.f_Now t.f_Last
    rw [he] at hc
    unfold capL at hc
    split at hc
    · exact .inl ⟨_, hc, by simp⟩
    · rename_i h1
      split at hc
      · exact .inl ⟨_, hc, by simp⟩
      · split at hc
        · exact .inl ⟨_, hc, by simp⟩
        · rename_i h3
          split at hc
          · exact .inl ⟨_, hc, by simp⟩
          · rename_i h4
            simp only [Bool.or_eq_true, decide_eq_true_eq, not_or] at h3
            exact .inr ⟨i, hi, hc, he, by simpa using h1, by omega, by omega⟩

theorem holdNever_law (l : List T_api_Hold) (takes : List T_cashbooklaw25_Take) (_ : l.length ≤ maxLen ∧ ∀ x ∈ l, T_api_Hold.wf x) (_ : takes.length ≤ maxLen ∧ ∀ x ∈ takes, T_cashbooklaw25_Take.wf x) : cashbooklaw25_HoldNever l takes = some true := by
  unfold cashbooklaw25_HoldNever
  by_cases hn : l.length ≤ 300 ∧ takes.length ≤ 300
  · have hlen : decide ((l.length : Int) > 300) = false := by simp; omega
    have hlen2 : decide ((takes.length : Int) > 300) = false := by simp; omega
    by_cases hb : chkH l = 0
    · have hg := chkH_good.1 hb
      have hfw := hg.few
      have hchk := check_eq l (show l.length < 4611686018427387904 by omega)
      rw [hb] at hchk
      rw [hlen, hlen2, Option.bind_some, Option.bind_some]
      show (gdO true (hold_Check l) (default : Int)).bind _ = _
      rw [show gdO true (hold_Check l) (default : Int) = some 0 from hchk, Option.bind_some, if_neg (by simp)]
      refine bind_at (x := (Sum.inl () : Unit ⊕ Bool)) ?_ (by rw [alive]; rfl)
      have key : ∀ (rest pre : List T_cashbooklaw25_Take) (now : List T_api_Hold), takes = pre ++ rest → GoodL now → loopO (fun (qj7 : (List T_api_Hold) × Int) => match qj7 with
      | (now8, i9) => (
        if (decide (i9 < (takes.length : Int))) = true then
          (((rdO takes i9).bind fun x11 =>
          (hold_Capture now8 x11.f_ID x11.f_Amount x11.f_Now x11.f_Last).bind fun x12 =>
          if (x12.2 != 0) = true then
            some (.inl now8)
          else
            (some ((x12.1.length : Int) != (now8.length : Int))).bind fun c13 =>
            (gdO (!c13) (hold_Check x12.1) (default : Int)).bind fun x14 =>
            if (c13 || (x14 != 0)) = true then
              some (.inr (.inr (.inr false)))
            else
              ((loopO (fun (qj15 : Int) => match qj15 with
                | k16 => (
                  if (decide (k16 < (now8.length : Int))) = true then
                    (((rdO now8 k16).bind fun x18 =>
                    (rdO x12.1 k16).bind fun x19 =>
                    (some (x18.f_ID != x11.f_ID)).bind fun c20 =>
                    if (c20 && (!(T_api_Hold.same x18 x19))) = true then
                      some (.inr (.inr (.inr (.inr (.inr (.inr false))))))
                    else
                      if (x18.f_ID != x11.f_ID) = true then
                        some (.inl ())
                      else
                        (hold_Rest x18 x11.f_Now).bind fun x21 =>
                        (some x18.f_Done).bind fun c22 =>
                        (some (c22 || (decide (x11.f_Amount.f_Minor < 1)))).bind fun c23 =>
                        (some (c23 || (decide (x11.f_Amount.f_Minor > x21)))).bind fun c24 =>
                        (some (c24 || (x19.f_Taken != (IntKind.wrap .i64 (x18.f_Taken + x11.f_Amount.f_Minor))))).bind fun c25 =>
                        (some (c25 || (decide (x19.f_Taken > x18.f_Amount.f_Minor)))).bind fun c26 =>
                        (some (c26 || (!(T_api_Money.same x19.f_Amount x18.f_Amount)))).bind fun c27 =>
                        (some x11.f_Last).bind fun c28 =>
                        (some (c27 || (!(x19.f_Done == (c28 || (x19.f_Taken == x19.f_Amount.f_Minor)))))).bind fun c29 =>
                        (some (!x19.f_Done)).bind fun c30 =>
                        (gdO ((!c29) && c30) (hold_Rest x19 x11.f_Now) (default : Int)).bind fun x31 =>
                        (some (c29 || (c30 && (x31 != (IntKind.wrap .i64 (x21 - x11.f_Amount.f_Minor)))))).bind fun c32 =>
                        (some x19.f_Done).bind fun c33 =>
                        (gdO ((!c32) && c33) (hold_Rest x19 x11.f_Now) (default : Int)).bind fun x34 =>
                        if (c32 || (c33 && (x34 != 0))) = true then
                          some (.inr (.inr (.inr (.inr (.inr (.inr false))))))
                        else
                          some (.inl ())) : Option (Unit ⊕ (Int ⊕ (Unit ⊕ ((List T_api_Hold) ⊕ (((List T_api_Hold) × Int) ⊕ (Unit ⊕ Bool))))))).bind fun j17 => match j17 with
                    | .inr o => some o
                    | .inl _ =>
                    some (.inl (IntKind.wrap .i64 (k16 + 1)))
                  else
                    some (.inr (.inl ())) : Option (Int ⊕ (Unit ⊕ ((List T_api_Hold) ⊕ (((List T_api_Hold) × Int) ⊕ (Unit ⊕ Bool))))))) 0) : Option (Unit ⊕ ((List T_api_Hold) ⊕ (((List T_api_Hold) × Int) ⊕ (Unit ⊕ Bool))))).bind fun j15 => match j15 with
              | .inr o => some o
              | .inl _ =>
              some (.inl x12.1)) : Option ((List T_api_Hold) ⊕ (((List T_api_Hold) × Int) ⊕ (Unit ⊕ Bool)))).bind fun j10 => match j10 with
          | .inr o => some o
          | .inl now35 =>
          some (.inl (now35, IntKind.wrap .i64 (i9 + 1)))
        else
          some (.inr (.inl ())) : Option (((List T_api_Hold) × Int) ⊕ (Unit ⊕ Bool)))) (now, (pre.length : Int)) = some (.inl ()) := by
        intro rest
        induction rest with
        | nil =>
          intro pre now hp hgn
          rw [loopO_out]
          have : decide ((pre.length : Int) < (takes.length : Int)) = false := by rw [hp]; simp
          simp only [this, Bool.false_eq_true, if_false]
        | cons t rest ih =>
          intro pre now hp hgn
          have hfn := hgn.few
          have hd : decide ((pre.length : Int) < (takes.length : Int)) = true := by rw [hp]; simp; omega
          have hpl : takes.length = pre.length + (rest.length + 1) := by rw [hp]; simp
          have hx : rdO takes (pre.length : Int) = some t := by rw [hp]; exact rd_mid rfl
          have e1 : IntKind.wrap .i64 ((pre.length : Int) + 1) = (((pre ++ [t]).length : Nat) : Int) := wN (by simp) (by simp; omega)
          rcases cap_cases hgn t with ⟨r, hr, h0⟩ | ⟨i, hi, hr, hid, hl, hp1, hp2⟩
          · have h0' : (r.2 != 0) = true := by simpa using h0
            have := ih (pre ++ [t]) now (by simp [hp]) hgn
            rw [loopO_on (s' := (now, (((pre ++ [t]).length : Nat) : Int))), this]
            simp only [hd, if_true, hx, Option.bind_some, hr, h0', e1]
          · have hgx : GoodL (now.set i (capH now[i] t.f_Amount t.f_Last)) := good_set hgn hi (cap_ok hl hp1 hp2) rfl
            have hcx := check_eq _ (show (now.set i (capH now[i] t.f_Amount t.f_Last)).length < 4611686018427387904 by simp; omega)
            rw [chkH_good.2 hgx] at hcx
            have hlx : (((now.set i (capH now[i] t.f_Amount t.f_Last)).length : Int) != (now.length : Int)) = false := by simp
            have := ih (pre ++ [t]) (now.set i (capH now[i] t.f_Amount t.f_Last)) (by simp [hp]) hgx
            have hin := never_in hgn hi hid hl hp1 hp2
            rw [loopO_on (s' := (now.set i (capH now[i] t.f_Amount t.f_Last), (((pre ++ [t]).length : Nat) : Int))), this]
            simp only [Option.bind_some] at hin
            simp only [hd, if_true, hx, Option.bind_some, hr, bne_self_eq_false, Bool.false_eq_true, if_false, hlx, Bool.not_false, gdO_some, cond_true, hcx, Bool.or_self, hin, e1]
      exact key takes [] l rfl hg
    · have hne : (chkH l != 0) = true := by simpa using hb
      simp only [hlen, hlen2, Option.bind_some, Bool.or_self, Bool.not_false, gdO, check_eq l (show l.length < 4611686018427387904 by omega), hne, Bool.or_true, if_true, alive]
  · have hlen : (decide ((l.length : Int) > 300) || decide ((takes.length : Int) > 300)) = true := by simp; omega
    simp only [hlen, Option.bind_some, Bool.not_true, gdO, Bool.true_or, if_true, alive]

end Go.Av.G
