import Derived.Test.YtkcilagjhieapaaGreatDoorC14
section
set_option linter.unusedVariables false
set_option linter.unusedSimpArgs false
set_option maxRecDepth 4000
set_option maxHeartbeats 4000000
namespace Go.Av.G
open Go Go.Av Go.Proofs
theorem fstIdx_mid {α : Type} {X Z : List α} {y : α} {p : α → Bool} (hX : ∀ x ∈ X, p x = false) (hy : p y = true) : fstIdx (X ++ y :: Z) p = some X.length := by
 have hat : (X ++ y :: Z)[X.length]? = some y := by simp
 cases h : fstIdx (X ++ y :: Z) p with
 | none =>
  have := fstIdx_none h y (by simp)
  rw [hy] at this
  cases this
 | some j =>
  obtain ⟨hj, hp, hmin⟩ := fstIdx_some h
  congr 1
  by_cases h1 : j < X.length
  ·rw [List.getElem_append_left h1] at hp
   rw [hX _ (List.getElem_mem h1)] at hp
   cases hp
  ·by_cases h2 : X.length < j
   ·have := hmin X.length h2
    rw [List.getElem_append_right (Nat.le_refl _)] at this
    simp only [Nat.sub_self, List.getElem_cons_zero] at this
    rw [hy] at this
    cases this
   ·omega
theorem idxHold_at {l : List T_api_Hold} (hg : GoodL l) {i : Nat} (hi : i < l.length) : slices_IndexFunc_Hold_Hold_1 l l[i].f_ID = some (i : Int) := by
 have hf := hg.few
 unfold slices_IndexFunc_Hold_Hold_1
 rw [loopL_idx (l := l) (fun x => x.f_ID == l[i].f_ID) (o := fun i => (Sum.inr (i : Int) : Unit ⊕ Int)) (e := Sum.inl ()) (by omega)]
 ·have : fstIdx l (fun x => x.f_ID == l[i].f_ID) = some i := by
   cases h : fstIdx l (fun x => x.f_ID == l[i].f_ID) with
   | none =>
    have := fstIdx_none h _ (List.getElem_mem hi)
    simp at this
   | some j =>
    obtain ⟨hj, hp, _⟩ := fstIdx_some h
    have := hg.rise.inj hj hi (by simpa using hp)
    rw [this]
  rw [this]
  rfl
 ·intro j h
  simp only [decide_eq_true_eq]
  rw [if_pos (by omega), rdO_at h]
  simp only [Option.bind_some, avail_Take_1]
  split <;> rfl
 ·intro j h
  simp only [decide_eq_true_eq]
  rw [if_neg (by omega)]
theorem idxCov_eq (l : List T_api_Covered) (id : Int) (hn : l.length < 4611686018427387904) : slices_IndexFunc_Covered_Covered l id = some (match fstIdx l (fun x => x.f_ID == id) with | some i => ((i : Nat) : Int) | none => -1) := by
 unfold slices_IndexFunc_Covered_Covered
 rw [loopL_idx (l := l) (fun x => x.f_ID == id) (o := fun i => (Sum.inr (i : Int) : Unit ⊕ Int)) (e := Sum.inl ()) hn]
 ·cases fstIdx l (fun x => x.f_ID == id) <;> rfl
 ·intro i h
  simp only [decide_eq_true_eq]
  rw [if_pos (by omega), rdO_at h]
  simp only [Option.bind_some, avail_Take_2]
  split <;> rfl
 ·intro i h
  simp only [decide_eq_true_eq]
  rw [if_neg (by omega)]
def covT (t : T_api_Till) (acc now : Int) : List T_api_Covered :=
 covL now (if 0 > fundsT t acc now + limR t.f_Limits acc then 0 else fundsT t acc now + limR t.f_Limits acc) (byRank (t.f_Holds.filter (selB acc (recT t acc).f_Cur now)) 9)
def muchT (t : T_api_Till) (acc now id : Int) : Option Int := (fstIdx (covT t acc now) (fun x => x.f_ID == id)).map fun j => (((covT t acc now)[j]?).getD default).f_Much
theorem covT_len (t : T_api_Till) (acc now : Int) : (covT t acc now).length ≤ t.f_Holds.length := by
 unfold covT
 rw [covL_length, (byRank_all (fun x hx => sel_rank hx)).length_eq]
 exact List.length_filter_le _ _
def takeT (t : T_api_Till) (i : Nat) (h : T_api_Hold) (a : T_api_Money) (now : Int) (last : Bool) : T_api_Till × Bool × Int :=
 if (capL t.f_Holds i h a now last).2 ≠ 0 then (noT, false, (capL t.f_Holds i h a now last).2)
 else if whyT t h.f_Acc now ≠ 0 then (noT, false, whyT t h.f_Acc now)
 else if h.f_Amount.f_Cur ≠ (recT t h.f_Acc).f_Cur then (noT, false, 12)
 else if (match muchT t h.f_Acc now h.f_ID with | some m => decide (m < a.f_Minor) | none => true) = true then (t, false, 0)
 else (withH t (capL t.f_Holds i h a now last).1, true, 0)
theorem capL_len (l : List T_api_Hold) (i : Nat) (h : T_api_Hold) (a : T_api_Money) (now : Int) (last : Bool) : (capL l i h a now last).1.length ≤ l.length := by
 unfold capL
 split
 ·simp
 ·split
  ·simp
  ·split
   ·simp
   ·split
    ·simp
    ·simp
theorem Take_none {t : T_api_Till} (hf : FewT t) (hr : RightT t) {id : Int} (h : ∀ x ∈ t.f_Holds, x.f_ID ≠ id) (a : T_api_Money) (now : Int) (last : Bool) : avail_Take t id a now last = some (noT, false, 8) := by
 unfold avail_Take
 rw [ARight_at hf hr]
 simp only [Option.bind_some, Bool.not_true, Bool.false_eq_true, if_false, cap_none hr.holds h]
 rfl
theorem Take_at {t : T_api_Till} (hf : FewT t) (hr : RightT t) {i : Nat} (hi : i < t.f_Holds.length) (a : T_api_Money) (now : Int) (last : Bool) : avail_Take t t.f_Holds[i].f_ID a now last = some (takeT t i t.f_Holds[i] a now last) := by
 obtain ⟨q, ha, hv⟩ := ask_spec hf hr t.f_Holds[i].f_Acc now
 have hh := hf.holds
 have hl := capL_len t.f_Holds i t.f_Holds[i] a now last
 have hct := covT_len t t.f_Holds[i].f_Acc now
 unfold avail_Take takeT
 rw [ARight_at hf hr]
 simp only [Option.bind_some, Bool.not_true, Bool.false_eq_true, if_false, cap_at hr.holds hi]
 by_cases hb : (capL t.f_Holds i t.f_Holds[i] a now last).2 = 0
 ·have hb' : ((capL t.f_Holds i t.f_Holds[i] a now last).2 != 0) = false := by simpa using hb
  rw [if_neg (not_not_intro hb)]
  simp only [hb', Bool.false_eq_true, if_false, idxHold_at hr.holds hi, Option.bind_some, rdO_at hi, ha]
  by_cases hw : whyT t t.f_Holds[i].f_Acc now = 0
  ·obtain rfl := hv hw
   rw [if_pos hw, if_neg (not_not_intro hw)]
   simp only [Option.isSome_none, Bool.false_eq_true, if_false]
   by_cases hc : t.f_Holds[i].f_Amount.f_Cur = (recT t t.f_Holds[i].f_Acc).f_Cur
   ·have hc' : (t.f_Holds[i].f_Amount.f_Cur != (recT t t.f_Holds[i].f_Acc).f_Cur) = false := by simpa using hc
    rw [if_neg (not_not_intro hc)]
    have hlim := lims_range hf hr hw 0
    have e1 : IntKind.wrap .i64 (fundsT t t.f_Holds[i].f_Acc now + limR t.f_Limits t.f_Holds[i].f_Acc) = fundsT t t.f_Holds[i].f_Acc now + limR t.f_Limits t.f_Holds[i].f_Acc := wrap64 (by omega) (by omega)
    have hcov := cover_eq hr.holds (funds := fundsT t t.f_Holds[i].f_Acc now + limR t.f_Limits t.f_Holds[i].f_Acc) (by omega) t.f_Holds[i].f_Acc (recT t t.f_Holds[i].f_Acc).f_Cur now
    have hcov' : hold_Cover t.f_Holds t.f_Holds[i].f_Acc (recT t t.f_Holds[i].f_Acc).f_Cur now (fundsT t t.f_Holds[i].f_Acc now + limR t.f_Limits t.f_Holds[i].f_Acc) = some (covT t t.f_Holds[i].f_Acc now, 0) := hcov
    simp only [hc', Bool.false_eq_true, if_false, e1, hcov', Option.bind_some, idxCov_eq _ _ (show (covT t t.f_Holds[i].f_Acc now).length < 4611686018427387904 by omega)]
    unfold muchT
    cases hx : fstIdx (covT t t.f_Holds[i].f_Acc now) (fun x => x.f_ID == t.f_Holds[i].f_ID) with
    | none =>
     simp only [Option.map_none, if_true]
     have e2 : decide ((-1 : Int) < 0) = true := by decide
     simp only [e2, Bool.not_true, gdO, Option.bind_some, Bool.true_or, if_true, with_eq hf hr (show t.f_Holds.length ≤ 200 by omega)]
     rfl
    | some j =>
     obtain ⟨hj, _, _⟩ := fstIdx_some hx
     have e2 : decide (((j : Nat) : Int) < 0) = false := decide_eq_false (by omega)
     simp only [Option.map_some, e2, Bool.not_false, gdO, rdO_at hj, Option.bind_some, Bool.false_or, List.getElem?_eq_getElem hj, Option.getD_some]
     by_cases hm : ((covT t t.f_Holds[i].f_Acc now)[j]).f_Much < a.f_Minor
     ·simp only [decide_eq_true hm, if_true, with_eq hf hr (show t.f_Holds.length ≤ 200 by omega), Option.bind_some]
      rfl
     ·simp only [decide_eq_false hm, Bool.false_eq_true, if_false, with_eq hf hr (show (capL t.f_Holds i t.f_Holds[i] a now last).1.length ≤ 200 by omega), Option.bind_some]
   ·have hc' : (t.f_Holds[i].f_Amount.f_Cur != (recT t t.f_Holds[i].f_Acc).f_Cur) = true := by simpa using hc
    rw [if_pos hc]
    simp only [hc', if_true]
    rfl
  ·rw [if_neg hw, if_pos hw]
   simp only [Option.isSome_some, if_true, avail_whyOf, Option.getD_some, Option.bind_some]
   rfl
 ·have hb' : ((capL t.f_Holds i t.f_Holds[i] a now last).2 != 0) = true := by simpa using hb
  rw [if_pos hb]
  simp only [hb', if_true]
  rfl
end Go.Av.G
end
section
set_option linter.unusedVariables false
set_option linter.unusedSimpArgs false
set_option maxRecDepth 4000
set_option maxHeartbeats 4000000
namespace Go.Av.G
open Go Go.Av Go.Proofs
theorem cut_holds (t : T_api_Till) : (cutT t).f_Holds.length ≤ 40 := by simp [cutT]; omega
theorem sumR_append (now : Int) (a b : List T_api_Hold) : sumR now (a ++ b) = sumR now a + sumR now b := by simp [sumR]
theorem covL_ids (now : Int) : ∀ (l : List T_api_Hold) (left : Int) (x : T_api_Covered), x ∈ covL now left l → ∃ h ∈ l, x.f_ID = h.f_ID
 | [], _, x, h => by simp [covL] at h
 | y :: t, left, x, h => by
  simp only [covL, List.mem_cons] at h
  rcases h with rfl | h
  ·exact ⟨y, by simp, rfl⟩
  ·obtain ⟨z, hz, e⟩ := covL_ids now t _ x h
   exact ⟨z, by simp [hz], e⟩
theorem ids_inj {s : List T_api_Hold} (h : Ids s) {x y : T_api_Hold} (hx : x ∈ s) (hy : y ∈ s) (e : x.f_ID = y.f_ID) : x = y := by
 induction s with
 | nil => cases hx
 | cons z t ih =>
  unfold Ids at h ih
  rw [List.pairwise_cons] at h
  rw [List.mem_cons] at hx hy
  rcases hx with rfl | hx
  ·rcases hy with rfl | hy
   ·rfl
   ·have := h.1 y hy; omega
  ·rcases hy with rfl | hy
   ·have := h.1 x hx; omega
   ·exact ih h.2 hx hy
theorem sumL_filter {acc cur now r : Int} : ∀ l : List T_api_Hold, sumR now ((l.filter (selB acc cur now)).filter fun h => decide (r ≤ h.f_Rank)) = sumL l acc cur now r
 | [] => by simp [sumR, sumL]
 | h :: t => by
  have ih := sumL_filter (acc := acc) (cur := cur) (now := now) (r := r) t
  have e : sumL (h :: t) acc cur now r = wH acc cur now r h + sumL t acc cur now r := by simp [sumL]
  rw [e, List.filter_cons]
  cases hs : selB acc cur now h with
  | true =>
   unfold selB at hs
   simp only [Bool.and_eq_true, beq_iff_eq] at hs
   rw [if_pos rfl, List.filter_cons]
   by_cases hr : r ≤ h.f_Rank
   ·rw [if_pos (decide_eq_true hr), sumR_cons, ih]
    unfold wH
    rw [if_pos ⟨hs.1, hs.2.1, hr⟩]
   ·rw [if_neg (by simpa using hr), ih]
    unfold wH
    rw [if_neg (fun hc => hr hc.2.2)]
    omega
  | false =>
   rw [if_neg (by simp), ih]
   have : wH acc cur now r h = 0 := by
    unfold wH
    split
    ·rename_i hc
     unfold selB at hs
     simp only [hc.1, hc.2.1, beq_self_eq_true, Bool.true_and] at hs
     unfold restH
     rw [hs]; simp
    ·rfl
   omega
theorem covered_mid {now F : Int} {A B : List T_api_Hold} {h : T_api_Hold} (hid : ∀ x ∈ A, x.f_ID ≠ h.f_ID) (hF : sumR now A + restH h now ≤ F) :
  (fstIdx (covL now F (A ++ h :: B)) (fun x => x.f_ID == h.f_ID)).map (fun j => (((covL now F (A ++ h :: B))[j]?).getD default).f_Much) = some (restH h now) := by
 have hr := (restH_range h now).1
 have hA := sumR_nonneg now A
 have e : covL now (covR now F A) (h :: B) = ⟨h.f_ID, lesser (restH h now) (covR now F A)⟩ :: covL now (covR now F A - lesser (restH h now) (covR now F A)) B := rfl
 have el : lesser (restH h now) (covR now F A) = restH h now := by
  rw [covR_sum now A F (by omega)]
  unfold lesser
  split <;> split <;> omega
 rw [covL_append, e, el, fstIdx_mid (fun x hx => by
  obtain ⟨y, hy, e⟩ := covL_ids now A F x hx
  rw [e]
  simpa using hid y hy) (by simp)]
 simp
theorem covered_at {l : List T_api_Hold} (hg : GoodL l) {h : T_api_Hold} (hm : h ∈ l) {acc cur now F : Int} (ha : h.f_Acc = acc) (hc : h.f_Amount.f_Cur = cur) (hl : liveH h now = true) (hF : sumL l acc cur now h.f_Rank ≤ F) :
  (fstIdx (covL now (if 0 > F then 0 else F) (byRank (l.filter (selB acc cur now)) 9)) (fun x => x.f_ID == h.f_ID)).map (fun j => (((covL now (if 0 > F then 0 else F) (byRank (l.filter (selB acc cur now)) 9))[j]?).getD default).f_Much) = some (restH h now) := by
 have hmem : h ∈ l.filter (selB acc cur now) := List.mem_filter.2 ⟨hm, by unfold selB; simp [ha, hc, hl]⟩
 have hids : Ids (l.filter (selB acc cur now)) := List.Pairwise.sublist List.filter_sublist (ids_of_rise hg.rise)
 have hp : (byRank (l.filter (selB acc cur now)) 9).Perm (l.filter (selB acc cur now)) := byRank_all (fun x hx => sel_rank hx)
 have hasc := asc_byRank hids 9
 have hsum := sumL_filter (acc := acc) (cur := cur) (now := now) (r := h.f_Rank) l
 have h0 := (sumL_range acc cur now h.f_Rank l).1
 generalize l.filter (selB acc cur now) = s at hmem hids hp hasc hsum ⊢
 obtain ⟨A, B, hAB⟩ := List.append_of_mem (hp.mem_iff.2 hmem)
 rw [hAB] at hp hasc ⊢
 have hbef : ∀ x ∈ A, bef x h := fun x hx => (List.pairwise_append.1 hasc).2.2 x hx h (by simp)
 have hF0 : (if 0 > F then 0 else F) = F := by rw [if_neg (by omega)]
 rw [hF0]
 refine covered_mid (fun x hx e => ?_) ?_
 ·have hxs : x ∈ s := hp.mem_iff.1 (by simp [hx])
  have := ids_inj hids hxs hmem e
  subst this
  exact bef_irr (hbef _ hx)
 ·have hp2 := hp.filter fun h' : T_api_Hold => decide (h.f_Rank ≤ h'.f_Rank)
  have hfA : A.filter (fun h' : T_api_Hold => decide (h.f_Rank ≤ h'.f_Rank)) = A := List.filter_eq_self.2 fun x hx => by
   have := hbef x hx
   unfold bef at this
   simp
   omega
  have e := sumR_perm (now := now) hp2
  rw [hsum, List.filter_append, hfA, List.filter_cons, if_pos (by simp), sumR_append, sumR_cons] at e
  have := sumR_nonneg now (B.filter fun h' : T_api_Hold => decide (h.f_Rank ≤ h'.f_Rank))
  omega
theorem mem_insH_self (h : T_api_Hold) : ∀ l : List T_api_Hold, h ∈ insH h l
 | [] => by simp [insH]
 | x :: t => by
  unfold insH
  split
  ·simp
  ·simp [mem_insH_self h t]
theorem addH_ok {l : List T_api_Hold} {h : T_api_Hold} (e : (addH l h).2 = 0) : okH h = true ∧ h.f_Taken = 0 ∧ h.f_Done = false ∧ (∀ x ∈ l, x.f_ID ≠ h.f_ID) ∧ l.length < 200 ∧ (addH l h).1 = insH h l := by
 unfold addH at e ⊢
 split at e
 ·cases e
 ·rename_i h1
  rw [if_neg h1]
  simp only [Bool.or_eq_true, Bool.not_eq_true', decide_eq_true_eq, not_or] at h1
  have hk : okH h = true := by simpa using h1.1.1
  have := okH_spec hk
  split at e
  ·cases e
  ·rename_i h2
   rw [if_neg h2]
   split at e
   ·cases e
   ·rename_i h3
    rw [if_neg h3]
    exact ⟨hk, by omega, by simpa using h1.2, any_id.1 (by simpa using h2), by omega, rfl⟩
end Go.Av.G
end
section
set_option linter.unusedVariables false
set_option linter.unusedSimpArgs false
set_option maxRecDepth 4000
set_option maxHeartbeats 4000000
namespace Go.Av.G
open Go Go.Av Go.Proofs
theorem covers_loop {t X : T_api_Till} {h : T_api_Hold} {is : Bool} {a b : Int → Int} (ha : ∀ k : Int, 0 ≤ k ∧ k ≤ 9 → avail_Free t h.f_Acc h.f_Made k = some (a k, 0)) (hb : ∀ k : Int, 0 ≤ k ∧ k ≤ 9 → avail_Free X h.f_Acc h.f_Made k = some (b k, 0))
  (h1 : is = decide (h.f_Amount.f_Minor ≤ a h.f_Rank)) (h2 : ∀ k : Int, 0 ≤ k ∧ k ≤ 9 → b k = IntKind.wrap .i64 (a k - (if is = true ∧ k ≤ h.f_Rank then h.f_Amount.f_Minor else 0))) :
  loopO (fun (qj6 : Int) => match qj6 with
   | x7 => (
    if (decide (x7 < 10)) = true then
     (avail_Free t h.f_Acc h.f_Made x7).bind fun x8 =>
     (avail_Free X h.f_Acc h.f_Made x7).bind fun x9 =>
     (some (x8.2 != 0)).bind fun c10 =>
     if (c10 || (x9.2 != 0)) = true then
      some (.inr (.inr false))
     else
      (some (x7 == h.f_Rank)).bind fun c11 =>
      if (c11 && (!(is == (decide (h.f_Amount.f_Minor ≤ x8.1))))) = true then
       some (.inr (.inr false))
      else
       (some is).bind fun c12 =>
       ((if (c12 && (decide (x7 ≤ h.f_Rank))) = true then
         some h.f_Amount.f_Minor
       else
        some 0) : Option Int).bind fun j13 =>
       if (x9.1 != (IntKind.wrap .i64 (x8.1 - j13))) = true then
        some (.inr (.inr false))
       else
        some (.inl (IntKind.wrap .i64 (x7 + 1)))
    else
     some (.inr (.inl ())) : Option (Int ⊕ (Unit ⊕ Bool)))) 0 = some (.inl ()) := by
 refine loopG (n := 10) (fun k : Nat => (k : Int)) ?_ ?_
 ·intro k hk
  have hk' : 0 ≤ (k : Int) ∧ (k : Int) ≤ 9 := by omega
  have hd : decide ((k : Int) < 10) = true := by simp; omega
  have e3 : IntKind.wrap .i64 ((k : Int) + 1) = ((k + 1 : Nat) : Int) := wrapS (by omega)
  have e1 : (((k : Int) == h.f_Rank) && !(is == decide (h.f_Amount.f_Minor ≤ a k))) = false := by
   by_cases he : (k : Int) = h.f_Rank
   ·rw [he, h1]; simp
   ·have : ((k : Int) == h.f_Rank) = false := by simpa using he
    rw [this]; rfl
  have ej : ((if (is && decide ((k : Int) ≤ h.f_Rank)) = true then some h.f_Amount.f_Minor else some 0) : Option Int) = some (if is = true ∧ (k : Int) ≤ h.f_Rank then h.f_Amount.f_Minor else 0) := by
   cases is with
   | false => simp
   | true =>
    by_cases hc : (k : Int) ≤ h.f_Rank
    ·simp [hc]
    ·simp [hc]
  simp only [hd, if_true, ha k hk', hb k hk', Option.bind_some, bne_self_eq_false, Bool.or_self, Bool.false_eq_true, if_false, e1, ej, h2 k hk', e3]
 ·simp only [decide_eq_true_eq]
  rw [if_neg (by omega)]
theorem rest_loop {l : List T_api_Hold} {n now : Int} (hn : l.length ≤ 1000) (h0 : ∀ k ∈ l, k.f_ID = n → restH k now = 0) (hx : ∃ k ∈ l, k.f_ID = n) :
  loopO (fun (qj18 : Int × Int) => match qj18 with
    | (rest19, x20) => (
     if (decide (x20 < (l.length : Int))) = true then
      (rdO l x20).bind fun x21 =>
      ((if (x21.f_ID == n) = true then
        (hold_Rest x21 now).bind fun x23 =>
        some x23
      else
       some rest19) : Option Int).bind fun j22 =>
      some (.inl (j22, IntKind.wrap .i64 (x20 + 1)))
     else
      some (.inr rest19) : Option ((Int × Int) ⊕ Int))) ((-1), 0) = some 0 := by
 have key : ∀ (t pre : List T_api_Hold) (rest : Int), l = pre ++ t →
  loopO (fun (qj18 : Int × Int) => match qj18 with
    | (rest19, x20) => (
     if (decide (x20 < (l.length : Int))) = true then
      (rdO l x20).bind fun x21 =>
      ((if (x21.f_ID == n) = true then
        (hold_Rest x21 now).bind fun x23 =>
        some x23
      else
       some rest19) : Option Int).bind fun j22 =>
      some (.inl (j22, IntKind.wrap .i64 (x20 + 1)))
     else
      some (.inr rest19) : Option ((Int × Int) ⊕ Int))) (rest, (pre.length : Int)) = some (if (t.any fun x => x.f_ID == n) = true then 0 else rest) := by
  intro t
  induction t with
  | nil =>
   intro pre rest he
   rw [loopO_out (o := rest)]
   ·rfl
   ·have : decide ((pre.length : Int) < (l.length : Int)) = false := by rw [he]; simp
    simp only [this, Bool.false_eq_true, if_false]
  | cons x t ih =>
   intro pre rest he
   have hlen : l.length = pre.length + (t.length + 1) := by rw [he]; simp
   have hd : decide ((pre.length : Int) < (l.length : Int)) = true := by simp; omega
   have hrd : rdO l (pre.length : Int) = some x := by rw [he]; exact rd_mid rfl
   have e1 : IntKind.wrap .i64 ((pre.length : Int) + 1) = (((pre ++ [x]).length : Nat) : Int) := wN (by simp) (by simp; omega)
   by_cases hid : x.f_ID = n
   ·have hid' : (x.f_ID == n) = true := by simpa using hid
    have hr : restH x now = 0 := h0 x (by rw [he]; simp) hid
    rw [loopO_on (s' := (0, (((pre ++ [x]).length : Nat) : Int))), ih (pre ++ [x]) 0 (by simp [he])]
    ·simp [hid]
    ·simp only [hd, if_true, hrd, Option.bind_some, hid', rest_eq, hr, e1]
   ·have hid' : (x.f_ID == n) = false := by simpa using hid
    rw [loopO_on (s' := (rest, (((pre ++ [x]).length : Nat) : Int))), ih (pre ++ [x]) rest (by simp [he])]
    ·simp [hid]
    ·simp only [hd, if_true, hrd, Option.bind_some, hid', Bool.false_eq_true, if_false, e1]
 have := key l [] (-1) rfl
 obtain ⟨k, hk, he⟩ := hx
 rw [if_pos (List.any_eq_true.2 ⟨k, hk, by simpa using he⟩)] at this
 exact this
theorem availCovers_law (t : T_api_Till) (h : T_api_Hold) (h1 : t.wf) (h2 : h.wf) : cashbooklaw26_AvailCovers t h = some true := by
 unfold cashbooklaw26_AvailCovers
 rw [few_eq]
 have hf := cut_few h1
 have h40 := cut_holds t
 generalize cutT t = t at hf h40
 simp only [Option.bind_some]
 by_cases hr : RightT t
 ·rw [Place_at hf hr]
  simp only [Option.bind_some]
  by_cases hb : (addH t.f_Holds h).2 = 0
  ·by_cases hw : whyT t h.f_Acc h.f_Made = 0
   ·by_cases hc : h.f_Amount.f_Cur = (recT t h.f_Acc).f_Cur
    ·obtain ⟨hok, htk, hdn, hno, hlt, hadd⟩ := addH_ok hb
     have hsp := okH_spec hok
     have hlive : liveH h h.f_Made = true := by
      unfold liveH
      rw [hok, hdn]
      simp
      omega
     have hrest : restH h h.f_Made = h.f_Amount.f_Minor := by
      unfold restH
      rw [if_pos hlive]
      omega
     have hlim := fun k => lims_range hf hr hw k
     have ha : ∀ k : Int, 0 ≤ k ∧ k ≤ 9 → avail_Free t h.f_Acc h.f_Made k = some (freeT t h.f_Acc h.f_Made k, 0) := fun k hk => Free_at hf hr hk hw
     unfold placeT
     rw [if_neg (not_not_intro hb), if_neg (not_not_intro hw), if_neg (not_not_intro hc)]
     by_cases hm : freeT t h.f_Acc h.f_Made h.f_Rank < h.f_Amount.f_Minor
     ·rw [if_pos hm]
      simp only [bne_self_eq_false, Bool.false_eq_true, if_false]
      refine bind_at (covers_loop ha ha ?_ ?_) ?_
      ·rw [decide_eq_false (by omega)]
      ·intro k hk
       have h3 := hlim k
       simp only [Bool.false_eq_true, false_and, if_false, Int.sub_zero]
       rw [wrap64 (by unfold freeT; omega) (by unfold freeT; omega)]
      ·simp only [Take_none hf hr hno, alive, Option.bind_some]
       rfl
     ·rw [if_neg hm, hadd]
      simp only [bne_self_eq_false, Bool.false_eq_true, if_false]
      have hl' : (insH h t.f_Holds).length ≤ 100 := by rw [insH_length]; omega
      have hg' := good_insH hr.holds hok hno hlt
      have hfx := few_with hf hl'
      have hrx := right_with hr hg'
      have hwx : whyT (withH t (insH h t.f_Holds)) h.f_Acc h.f_Made = 0 := hw
      have hsum : ∀ k, sumL (insH h t.f_Holds) h.f_Acc (recT t h.f_Acc).f_Cur h.f_Made k = sumL t.f_Holds h.f_Acc (recT t h.f_Acc).f_Cur h.f_Made k + (if k ≤ h.f_Rank then h.f_Amount.f_Minor else 0) := by
       intro k
       rw [sumL_insH]
       unfold wH
       by_cases hk : k ≤ h.f_Rank
       ·rw [if_pos hk, if_pos ⟨rfl, hc, hk⟩, hrest]
       ·rw [if_neg hk, if_neg (fun q => hk q.2.2)]
      refine bind_at (covers_loop (b := fun k => freeT (withH t (insH h t.f_Holds)) h.f_Acc h.f_Made k) ha (fun k hk => Free_at hfx hrx hk hwx) ?_ ?_) ?_
      ·rw [decide_eq_true (by omega)]
      ·intro k hk
       have h3 := hlim k
       simp only [true_and]
       rw [free_with, hsum k]
       by_cases hk : k ≤ h.f_Rank
       ·rw [if_pos hk, wrap64 (by unfold freeT; omega) (by unfold freeT; omega)]
        unfold freeT
        omega
       ·rw [if_neg hk, wrap64 (by unfold freeT; omega) (by unfold freeT; omega)]
        unfold freeT
        omega
      ·obtain ⟨i, hi, he⟩ := List.getElem_of_mem (mem_insH_self h t.f_Holds)
       have hi' : i < (withH t (insH h t.f_Holds)).f_Holds.length := hi
       have he' : (withH t (insH h t.f_Holds)).f_Holds[i]'hi' = h := he
       have htake := Take_at hfx hrx hi' h.f_Amount h.f_Made true
       rw [he'] at htake
       have hcap : capL (withH t (insH h t.f_Holds)).f_Holds i h h.f_Amount h.f_Made true = ((insH h t.f_Holds).set i (capH h h.f_Amount true), 0) := by
        unfold capL
        have hM : (!okM h.f_Amount || decide (h.f_Amount.f_Minor ≤ 0)) = false := by
         have : okM h.f_Amount = true := by unfold okM; simp; omega
         rw [this]
         simp
         omega
        rw [hlive, if_neg (by simp), if_neg (by simp), hM, if_neg (by simp), hrest, if_neg (by omega)]
        rfl
       have hmuch : muchT (withH t (insH h t.f_Holds)) h.f_Acc h.f_Made h.f_ID = some h.f_Amount.f_Minor := by
        have := covered_at (now := h.f_Made) (F := fundsT t h.f_Acc h.f_Made + limR t.f_Limits h.f_Acc) hg' (mem_insH_self h t.f_Holds) rfl hc hlive (by
         rw [hsum, if_pos (Int.le_refl _)]
         unfold freeT at hm
         omega)
        rw [hrest] at this
        exact this
       have htk2 : takeT (withH t (insH h t.f_Holds)) i h h.f_Amount h.f_Made true = (withH t ((insH h t.f_Holds).set i (capH h h.f_Amount true)), true, 0) := by
        unfold takeT
        rw [hcap, hmuch, hwx]
        simp only [ne_eq, not_true_eq_false, if_false, rec_with, hc, Int.lt_irrefl, decide_false, Bool.false_eq_true]
        rfl
       rw [htk2] at htake
       simp only [htake, Option.bind_some, Bool.not_true, Bool.false_eq_true, if_false]
       have hgs := good_set (y := capH h h.f_Amount true) hg' hi (cap_ok hlive (by omega) (by omega)) (by rw [he]; rfl)
       have his : i < ((insH h t.f_Holds).set i (capH h h.f_Amount true)).length := by simpa using hi
       have hget : ((insH h t.f_Holds).set i (capH h h.f_Amount true))[i] = capH h h.f_Amount true := by simp
       have hzero : restH (capH h h.f_Amount true) h.f_Made = 0 := by
        unfold restH
        rw [if_neg]
        unfold liveH capH
        simp
       refine bind_at (rest_loop (n := h.f_ID) (now := h.f_Made) (l := (withH t ((insH h t.f_Holds).set i (capH h h.f_Amount true))).f_Holds) ?_ ?_ ?_) ?_
       ·have := hgs.few
        exact Nat.le_trans this (by omega)
       ·intro k hk hid
        obtain ⟨j, hj, rfl⟩ := List.getElem_of_mem hk
        have := hgs.rise.inj hj his (by rw [hget]; exact hid)
        subst this
        rw [show ((withH t ((insH h t.f_Holds).set j (capH h h.f_Amount true))).f_Holds[j]'hj) = capH h h.f_Amount true from hget]
        exact hzero
       ·have hmc := List.getElem_mem his
        rw [hget] at hmc
        exact ⟨capH h h.f_Amount true, hmc, rfl⟩
       ·simp only [alive, Option.bind_some]
        rfl
    ·unfold placeT
     rw [if_neg (not_not_intro hb), if_neg (not_not_intro hw), if_pos hc, alive]
     rfl
   ·unfold placeT
    rw [if_neg (not_not_intro hb), if_pos hw, alive]
    simp [hw]
  ·unfold placeT
   rw [if_pos hb, alive]
   simp [hb]
 ·rw [Place_bad hf hr, alive]
  rfl
end Go.Av.G
end
