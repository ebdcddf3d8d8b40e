/- Plain laws of the sort: SortStableFunc on holds is the sort by rank, then by number. -/
import Derived.Test.YtkcilagjhieapaaUhp
set_option linter.unusedVariables false
set_option linter.unusedSimpArgs false
set_option maxRecDepth 4000
set_option maxHeartbeats 4000000
namespace Go.Av.G
open Go Go.Av Go.Proofs

/-- One is ahead of another: by rank, then by number. -/
def bef (x y : T_api_Hold) : Prop := y.f_Rank < x.f_Rank ∨ (x.f_Rank = y.f_Rank ∧ x.f_ID < y.f_ID)

theorem bef_trans {x y z : T_api_Hold} (h1 : bef x y) (h2 : bef y z) : bef x z := by unfold bef at *; omega

theorem cover_cmp (a b : T_api_Hold) : ∃ c, hold_Cover_1 a b = some c ∧ decide (c < 0) = decide (b.f_Rank < a.f_Rank) := by
  simp only [hold_Cover_1, cmp_Compare_int, cmp_isNaN_int, Option.bind_some, bne_self_eq_false, Bool.false_eq_true, if_false, decide_eq_true_eq]
  by_cases h : b.f_Rank < a.f_Rank
  · exact ⟨-1, by simp [h], by simp [h]⟩
  · by_cases h2 : b.f_Rank > a.f_Rank
    · exact ⟨1, by simp [h, h2], by simp [h]⟩
    · exact ⟨0, by simp [h, h2], by simp [h]⟩

theorem wN {x : Int} {n : Nat} (h : x = n) (hn : n < 4611686018427387904) : IntKind.wrap .i64 x = (n : Int) := by
  subst h
  exact wrap64 (by omega) (by omega)

theorem rd_mid {α : Type} {A B : List α} {x : α} {n : Nat} (h : n = A.length) : rdO (A ++ x :: B) (n : Int) = some x := by
  subst h
  rw [rdO_at (by simp)]
  simp

theorem set_mid {α : Type} {A B : List α} {x y : α} {n : Nat} (h : n = A.length) : (A ++ x :: B).set n y = A ++ y :: B := by
  subst h
  rw [List.set_append_right _ _ (Nat.le_refl _)]
  simp

theorem rd_mid2 {α : Type} {A B : List α} {x y : α} {n : Nat} (h : n = A.length + 1) : rdO (A ++ x :: y :: B) (n : Int) = some y := by
  have := rd_mid (A := A ++ [x]) (B := B) (x := y) (n := n) (by simp [h])
  simpa using this

theorem set_mid2 {α : Type} {A B : List α} {x y z : α} {n : Nat} (h : n = A.length + 1) : (A ++ x :: y :: B).set n z = A ++ x :: z :: B := by
  have := set_mid (A := A ++ [x]) (B := B) (x := y) (y := z) (n := n) (by simp [h])
  simpa using this

/-! ### insertion -/

theorem ins_inner {a : Nat} {A R : List T_api_Hold} {y : T_api_Hold} (ha : a = A.length) : ∀ (P1 P2 : List T_api_Hold), (A.length + P1.length < 4611686018427387900) → (∀ x ∈ P2, x.f_Rank < y.f_Rank) →
    ∃ Q1 Q2, loopO (fun (qj7 : Int × (List T_api_Hold)) => match qj7 with
          | (j8, row9) => (
            (some (decide (j8 > (a : Int)))).bind fun c10 =>
            (gdO c10 (rdO row9 j8) (default : T_api_Hold)).bind fun x11 =>
            (gdO c10 (rdO row9 (IntKind.wrap .i64 (j8 - 1))) (default : T_api_Hold)).bind fun x12 =>
            (gdO c10 (hold_Cover_1 x11 x12) (default : Int)).bind fun x13 =>
            if (c10 && (decide (x13 < 0))) = true then
              (rdO row9 (IntKind.wrap .i64 (j8 - 1))).bind fun x14 =>
              (rdO row9 j8).bind fun x15 =>
              (rdO row9 j8).bind fun x16 =>
              (rdO (List.set row9 (Int.toNat j8) x14) (IntKind.wrap .i64 (j8 - 1))).bind fun x17 =>
              some (.inl (IntKind.wrap .i64 (j8 - 1), (List.set (List.set row9 (Int.toNat j8) x14) (Int.toNat (IntKind.wrap .i64 (j8 - 1))) x15)))
            else
              some (.inr row9) : Option ((Int × (List T_api_Hold)) ⊕ (List T_api_Hold)))) (((A.length + P1.length : Nat) : Int), A ++ P1 ++ y :: P2 ++ R) = some (A ++ Q1 ++ y :: Q2 ++ R) ∧ Q1 ++ Q2 = P1 ++ P2 ∧ (∀ x ∈ Q2, x.f_Rank < y.f_Rank) ∧ (∀ z, Q1.getLast? = some z → ¬ z.f_Rank < y.f_Rank) := by
  intro P1
  induction hn : P1.length generalizing P1 with
  | zero =>
    intro P2 hb hP2
    obtain rfl : P1 = [] := List.length_eq_zero_iff.1 hn
    refine ⟨[], P2, ?_, rfl, hP2, by simp⟩
    rw [loopO_out]
    have : decide (((A.length + 0 : Nat) : Int) > (a : Int)) = false := by simp [ha]
    simp only [this, Option.bind_some, gdO, Bool.false_and, Bool.false_eq_true, if_false]
  | succ n ih =>
    intro P2 hb hP2
    rcases List.eq_nil_or_concat P1 with rfl | ⟨P1', z, rfl⟩
    · simp at hn
    · have hn' : P1'.length = n := by simpa using hn
      have hd : decide (((A.length + (n + 1) : Nat) : Int) > (a : Int)) = true := by simp [ha]; omega
      have hw : IntKind.wrap .i64 (((A.length + (n + 1) : Nat) : Int) - 1) = ((A.length + n : Nat) : Int) := wN (by omega) (by omega)
      have hrow : A ++ (P1'.concat z) ++ y :: P2 ++ R = (A ++ P1') ++ z :: y :: (P2 ++ R) := by simp
      obtain ⟨c, hc, hcd⟩ := cover_cmp y z
      by_cases hlt : z.f_Rank < y.f_Rank
      · obtain ⟨Q1, Q2, q1, q2, q3, q4⟩ := ih P1' hn' (z :: P2) (by omega) (fun x hx => (List.mem_cons.1 hx).elim (fun e => e ▸ hlt) (hP2 x))
        refine ⟨Q1, Q2, ?_, by simpa using q2, q3, q4⟩
        have hrow2 : A ++ P1' ++ y :: (z :: P2) ++ R = (A ++ P1') ++ y :: z :: (P2 ++ R) := by simp
        rw [hrow2] at q1
        rw [hrow, loopO_on, q1]
        simp only [hd, hw, gdO, Option.bind_some, Bool.true_and, rd_mid (A := A ++ P1') (show A.length + n = (A ++ P1').length by simp [hn']), rd_mid2 (A := A ++ P1') (show A.length + (n + 1) = (A ++ P1').length + 1 by simp [hn']; omega), hc, hcd, hlt, decide_true, if_true, Int.toNat_natCast,
          set_mid2 (A := A ++ P1') (show A.length + (n + 1) = (A ++ P1').length + 1 by simp [hn']; omega), set_mid (A := A ++ P1') (show A.length + n = (A ++ P1').length by simp [hn'])]
      · refine ⟨P1'.concat z, P2, ?_, rfl, hP2, by intro w hw; simp at hw; subst hw; exact hlt⟩
        rw [hrow, loopO_out]
        simp only [hd, hw, gdO, Option.bind_some, Bool.true_and, rd_mid (A := A ++ P1') (show A.length + n = (A ++ P1').length by simp [hn']), rd_mid2 (A := A ++ P1') (show A.length + (n + 1) = (A ++ P1').length + 1 by simp [hn']; omega), hc, hcd, hlt, decide_false, Bool.false_eq_true, if_false]

/-- Sorted, by rank, then by number. -/
def Asc (l : List T_api_Hold) : Prop := l.Pairwise bef

/-- Numbers rise. -/
def Ids (l : List T_api_Hold) : Prop := l.Pairwise fun x y => x.f_ID < y.f_ID

theorem asc_ins {Q1 Q2 : List T_api_Hold} {y : T_api_Hold} (h : Asc (Q1 ++ Q2)) (hid : ∀ x ∈ Q1 ++ Q2, x.f_ID < y.f_ID) (h2 : ∀ x ∈ Q2, x.f_Rank < y.f_Rank) (h1 : ∀ z, Q1.getLast? = some z → ¬ z.f_Rank < y.f_Rank) : Asc (Q1 ++ y :: Q2) := by
  unfold Asc at *
  rw [List.pairwise_append] at h ⊢
  obtain ⟨a1, a2, a3⟩ := h
  have hq : ∀ x ∈ Q1, bef x y := by
    intro x hx
    rcases List.eq_nil_or_concat Q1 with rfl | ⟨Q, z, rfl⟩
    · cases hx
    · have hz := h1 z (by simp)
      have hix := hid x (List.mem_append_left _ hx)
      rw [List.concat_eq_append, List.pairwise_append] at a1
      simp only [List.concat_eq_append, List.mem_append, List.mem_singleton] at hx
      rcases hx with hx | rfl
      · have := a1.2.2 x hx z (by simp)
        unfold bef at *
        omega
      · unfold bef
        omega
  refine ⟨a1, List.pairwise_cons.2 ⟨fun x hx => .inl (h2 x hx), a2⟩, fun x hx w hw => ?_⟩
  rcases List.mem_cons.1 hw with rfl | hw
  · exact hq x hx
  · exact a3 x hx w hw

theorem isort_spec {A X B : List T_api_Hold} {a b : Nat} (ha : a = A.length) (hb : b = A.length + X.length) (hn : (A ++ X ++ B).length < 4611686018427387000) (hid : Ids X) :
    ∃ Y, slices_insertionSortCmpFunc_Hold (a : Int) (b : Int) (A ++ X ++ B) = some (A ++ Y ++ B) ∧ Y.Perm X ∧ Asc Y := by
  have hlen : A.length + X.length < 4611686018427387000 := by simp at hn; omega
  unfold slices_insertionSortCmpFunc_Hold
  have key : ∀ (Q P X0 : List T_api_Hold), X = X0 ++ Q → P.Perm X0 → Asc P → ∃ Y, loopO (fun (qj4 : Int × (List T_api_Hold)) => match qj4 with
    | (i5, row6) => (
      if (decide (i5 < (b : Int))) = true then
        ((loopO (fun (qj7 : Int × (List T_api_Hold)) => match qj7 with
          | (j8, row9) => (
            (some (decide (j8 > (a : Int)))).bind fun c10 =>
            (gdO c10 (rdO row9 j8) (default : T_api_Hold)).bind fun x11 =>
            (gdO c10 (rdO row9 (IntKind.wrap .i64 (j8 - 1))) (default : T_api_Hold)).bind fun x12 =>
            (gdO c10 (hold_Cover_1 x11 x12) (default : Int)).bind fun x13 =>
            if (c10 && (decide (x13 < 0))) = true then
              (rdO row9 (IntKind.wrap .i64 (j8 - 1))).bind fun x14 =>
              (rdO row9 j8).bind fun x15 =>
              (rdO row9 j8).bind fun x16 =>
              (rdO (List.set row9 (Int.toNat j8) x14) (IntKind.wrap .i64 (j8 - 1))).bind fun x17 =>
              some (.inl (IntKind.wrap .i64 (j8 - 1), (List.set (List.set row9 (Int.toNat j8) x14) (Int.toNat (IntKind.wrap .i64 (j8 - 1))) x15)))
            else
              some (.inr row9) : Option ((Int × (List T_api_Hold)) ⊕ (List T_api_Hold)))) (i5, row6)) : Option (List T_api_Hold)).bind fun j7 =>
        some (.inl (IntKind.wrap .i64 (i5 + 1), j7))
      else
        some (.inr row6) : Option ((Int × (List T_api_Hold)) ⊕ (List T_api_Hold)))) (((A.length + P.length : Nat) : Int), A ++ P ++ Q ++ B) = some (A ++ Y ++ B) ∧ Y.Perm X ∧ Asc Y := by
    intro Q
    induction Q with
    | nil =>
      intro P X0 hX hP hA
      have hl := hP.length_eq
      refine ⟨P, ?_, by rw [hX, List.append_nil]; exact hP, hA⟩
      rw [loopO_out (o := A ++ P ++ B)]
      have : decide (((A.length + P.length : Nat) : Int) < (b : Int)) = false := by rw [hX] at hb; simp at hb; simp; omega
      simp only [this, Bool.false_eq_true, if_false, List.append_nil]
    | cons y Q ih =>
      intro P X0 hX hP hA
      have hl := hP.length_eq
      have hXl : X.length = X0.length + (Q.length + 1) := by rw [hX]; simp
      obtain ⟨Q1, Q2, q1, q2, q3, q4⟩ := ins_inner (a := a) (A := A) (R := Q ++ B) (y := y) ha P [] (by omega) (by simp)
      rw [List.append_nil] at q2
      have hPy : ∀ x ∈ Q1 ++ Q2, x.f_ID < y.f_ID := by
        intro x hx
        rw [q2] at hx
        have hx0 := hP.mem_iff.1 hx
        unfold Ids at hid
        rw [hX, List.pairwise_append] at hid
        exact hid.2.2 x hx0 y (by simp)
      have hA2 : Asc (Q1 ++ y :: Q2) := asc_ins (by rw [q2]; exact hA) hPy q3 q4
      obtain ⟨Y, y1, y2, y3⟩ := ih (Q1 ++ y :: Q2) (X0 ++ [y]) (by simp [hX]) (by
        refine (List.perm_middle).trans ?_
        rw [q2]
        exact (List.Perm.cons y hP).trans (List.perm_append_singleton y X0).symm) hA2
      refine ⟨Y, ?_, y2, y3⟩
      rw [← y1]
      have hd : decide (((A.length + P.length : Nat) : Int) < (b : Int)) = true := by simp; omega
      have e1 : A ++ P ++ y :: Q ++ B = A ++ P ++ [y] ++ (Q ++ B) := by simp
      have hq2 := congrArg List.length q2
      simp only [List.length_append] at hq2
      rw [loopO_on]
      simp only [hd, if_true]
      rw [e1, q1]
      simp only [Option.bind_some, Option.some.injEq, Sum.inl.injEq, Prod.mk.injEq]
      refine ⟨?_, by simp⟩
      rw [wN (n := A.length + (Q1 ++ y :: Q2).length) (by simp; omega) (by simp; omega)]
  have h1 : IntKind.wrap .i64 ((a : Int) + 1) = ((A.length + 1 : Nat) : Int) := wN (by omega) (by omega)
  cases X with
  | nil =>
    refine ⟨[], ?_, List.Perm.refl _, List.Pairwise.nil⟩
    rw [h1, loopO_out (o := A ++ [] ++ B)]
    · rfl
    · have : decide (((A.length + 1 : Nat) : Int) < (b : Int)) = false := by simp at hb; simp; omega
      simp only [this, Bool.false_eq_true, if_false]
  | cons x X =>
    obtain ⟨Y, y1, y2, y3⟩ := key X [x] [x] rfl (List.Perm.refl _) (by unfold Asc; simp)
    refine ⟨Y, ?_, y2, y3⟩
    rw [h1]
    have e : A ++ x :: X ++ B = A ++ [x] ++ X ++ B := by simp
    have e2 : ((A.length + [x].length : Nat) : Int) = ((A.length + 1 : Nat) : Int) := rfl
    rw [e2] at y1
    rw [e, y1]
    rfl

end Go.Av.G

namespace Go.Av.G
open Go Go.Av Go.Proofs

theorem swap_loop {a b n : Nat} (hn : n < 4611686018427387000) (ha : a < 1000000000000) (hb : b < 1000000000000) (hnn : n < 1000000000000) : ∀ (X Y A C B : List T_api_Hold) (i : Nat), X.length = Y.length → i + X.length = n → a + i = A.length → b + i = A.length + X.length + C.length →
    loopO (fun (qj5 : Int × (List T_api_Hold)) => match qj5 with
    | (i6, row7) => (
      if (decide (i6 < (n : Int))) = true then
        (rdO row7 (IntKind.wrap .i64 ((b : Int) + i6))).bind fun x8 =>
        (rdO row7 (IntKind.wrap .i64 ((a : Int) + i6))).bind fun x9 =>
        (rdO row7 (IntKind.wrap .i64 ((a : Int) + i6))).bind fun x10 =>
        (rdO (List.set row7 (Int.toNat (IntKind.wrap .i64 ((a : Int) + i6))) x8) (IntKind.wrap .i64 ((b : Int) + i6))).bind fun x11 =>
        some (.inl (IntKind.wrap .i64 (i6 + 1), (List.set (List.set row7 (Int.toNat (IntKind.wrap .i64 ((a : Int) + i6))) x8) (Int.toNat (IntKind.wrap .i64 ((b : Int) + i6))) x9)))
      else
        some (.inr row7) : Option ((Int × (List T_api_Hold)) ⊕ (List T_api_Hold)))) ((i : Int), A ++ (X ++ (C ++ (Y ++ B)))) = some (A ++ (Y ++ (C ++ (X ++ B)))) := by
  intro X
  induction X with
  | nil =>
    intro Y A C B i hl hi _ _
    obtain rfl : Y = [] := List.length_eq_zero_iff.1 hl.symm
    rw [loopO_out]
    have : decide ((i : Int) < (n : Int)) = false := by simp at hi; simp; omega
    simp only [this, Bool.false_eq_true, if_false]
  | cons x X ih =>
    intro Y A C B i hl hi h1 h2
    cases Y with
    | nil => simp at hl
    | cons y Y =>
      simp only [List.length_cons] at hl hi h2
      have hl : X.length = Y.length := by omega
      have := ih Y (A ++ [y]) (C ++ [x]) B (i + 1) hl (by omega) (by simp; omega) (by simp; omega)
      have hd : decide ((i : Int) < (n : Int)) = true := by simp; omega
      have ea : IntKind.wrap .i64 ((a : Int) + (i : Int)) = ((a + i : Nat) : Int) := wN (by omega) (by omega)
      have eb : IntKind.wrap .i64 ((b : Int) + (i : Int)) = ((b + i : Nat) : Int) := wN (by omega) (by omega)
      have e1 : A ++ (x :: X ++ (C ++ (y :: Y ++ B))) = (A ++ x :: X ++ C) ++ y :: (Y ++ B) := by simp
      have e2 : ∀ z, A ++ (z :: X ++ (C ++ (y :: Y ++ B))) = A ++ z :: (X ++ (C ++ (y :: Y ++ B))) := fun z => by simp
      have r1 : rdO (A ++ (x :: X ++ (C ++ (y :: Y ++ B)))) ((b + i : Nat) : Int) = some y := by
        rw [e1]; exact rd_mid (by simp; omega)
      have r2 : rdO (A ++ (x :: X ++ (C ++ (y :: Y ++ B)))) ((a + i : Nat) : Int) = some x := by
        rw [e2]; exact rd_mid h1
      have s1 : (A ++ (x :: X ++ (C ++ (y :: Y ++ B)))).set (a + i) y = (A ++ y :: X ++ C) ++ y :: (Y ++ B) := by
        rw [e2, set_mid h1]; simp
      have r3 : rdO ((A ++ y :: X ++ C) ++ y :: (Y ++ B)) ((b + i : Nat) : Int) = some y := rd_mid (by simp; omega)
      have s2 : ((A ++ y :: X ++ C) ++ y :: (Y ++ B)).set (b + i) x = (A ++ y :: X ++ C) ++ x :: (Y ++ B) := set_mid (by simp; omega)
      have ei : IntKind.wrap .i64 ((i : Int) + 1) = ((i + 1 : Nat) : Int) := wN (by omega) (by omega)
      rw [loopO_on (s' := (((i + 1 : Nat) : Int), (A ++ [y]) ++ (X ++ ((C ++ [x]) ++ (Y ++ B)))))]
      · rw [this]; simp
      · simp only [hd, if_true, ea, eb, r1, r2, Option.bind_some, Int.toNat_natCast, s1, r3, s2, ei, Option.some.injEq, Sum.inl.injEq, Prod.mk.injEq, true_and]
        simp

theorem swap_eq {a b n : Nat} {A X C Y B : List T_api_Hold} (hl : (A ++ (X ++ (C ++ (Y ++ B)))).length < 1000000000) (ha : a = A.length) (hx : X.length = n) (hy : Y.length = n) (hb : b = A.length + X.length + C.length) :
    slices_swapRangeCmpFunc_Hold (a : Int) (b : Int) (n : Int) (A ++ (X ++ (C ++ (Y ++ B)))) = some (A ++ (Y ++ (C ++ (X ++ B)))) := by
  simp only [List.length_append] at hl
  unfold slices_swapRangeCmpFunc_Hold
  have := swap_loop (a := a) (b := b) (n := n) (by omega) (by omega) (by omega) (by omega) X Y A C B 0 (by omega) (by omega) (by omega) (by omega)
  have e : ((0 : Nat) : Int) = 0 := rfl
  rw [e] at this
  rw [this]
  rfl

/-- The loop of rotation, and the last swap. -/
theorem rot_loop {m : Nat} : ∀ (k : Nat) (X Y A B : List T_api_Hold), X.length + Y.length ≤ k → X ≠ [] → Y ≠ [] → m = A.length + X.length → (A ++ (X ++ (Y ++ B))).length < 1000000000 →
    ((loopO (fun (qj5 : Int × Int × (List T_api_Hold)) => match qj5 with
    | (i6, j7, row8) => (
      if (i6 != j7) = true then
        if (decide (i6 > j7)) = true then
          (slices_swapRangeCmpFunc_Hold (IntKind.wrap .i64 ((m : Int) - i6)) (m : Int) j7 row8).bind fun x9 =>
          some (.inl (IntKind.wrap .i64 (i6 - j7), j7, x9))
        else
          (slices_swapRangeCmpFunc_Hold (IntKind.wrap .i64 ((m : Int) - i6)) (IntKind.wrap .i64 ((IntKind.wrap .i64 ((m : Int) + j7)) - i6)) i6 row8).bind fun x10 =>
          some (.inl (i6, IntKind.wrap .i64 (j7 - i6), x10))
      else
        some (.inr (i6, row8)) : Option ((Int × Int × (List T_api_Hold)) ⊕ (Int × (List T_api_Hold))))) ((X.length : Int), (Y.length : Int), A ++ (X ++ (Y ++ B)))) : Option (Int × (List T_api_Hold))).bind (fun (i11, row12) =>
  (slices_swapRangeCmpFunc_Hold (IntKind.wrap .i64 ((m : Int) - i11)) (m : Int) i11 row12).bind fun x13 =>
  some x13) = some (A ++ (Y ++ (X ++ B))) := by
  intro k
  induction k with
  | zero =>
    intro X Y A B hk hX hY
    exact absurd (List.length_eq_zero_iff.1 (by omega : X.length = 0)) hX
  | succ k ih =>
    intro X Y A B hk hX hY hm hl
    have hx0 : 0 < X.length := List.length_pos_iff.2 hX
    have hy0 : 0 < Y.length := List.length_pos_iff.2 hY
    have hl' := hl
    simp only [List.length_append] at hl
    have ew : IntKind.wrap .i64 ((m : Int) - (X.length : Int)) = (A.length : Int) := wN (by omega) (by omega)
    by_cases heq : X.length = Y.length
    · have hs := swap_eq (a := A.length) (b := m) (n := X.length) (A := A) (X := X) (C := []) (Y := Y) (B := B) (by simpa using hl') rfl rfl heq.symm (by simpa using hm)
      rw [loopO_out (o := ((X.length : Int), A ++ (X ++ (Y ++ B))))]
      · simp only [Option.bind_some, ew]
        rw [List.nil_append] at hs
        rw [hs]
        simp
      · have : ((X.length : Int) != (Y.length : Int)) = false := by rw [heq]; simp
        simp only [this, Bool.false_eq_true, if_false]
    · have hne : ((X.length : Int) != (Y.length : Int)) = true := by simp; omega
      by_cases hgt : Y.length < X.length
      · obtain ⟨X1, X2, rfl, hX1⟩ : ∃ X1 X2, X = X1 ++ X2 ∧ X1.length = Y.length := ⟨X.take Y.length, X.drop Y.length, (List.take_append_drop _ _).symm, by rw [List.length_take]; omega⟩
        simp only [List.length_append] at hgt hm hk hl heq hx0
        have hs := swap_eq (a := A.length) (b := m) (n := Y.length) (A := A) (X := X1) (C := X2) (Y := Y) (B := B) (by simpa using hl') rfl hX1 rfl (by omega)
        have hi := ih X2 X1 (A ++ Y) B (by omega) (by intro e; subst e; simp at hgt; omega) (by intro e; subst e; simp at hX1; omega) (by simp only [List.length_append]; omega) (by simp only [List.length_append]; omega)
        rw [loopO_on (s' := ((X2.length : Int), (X1.length : Int), (A ++ Y) ++ (X2 ++ (X1 ++ B)))), hi]
        · simp
        · have hg : decide (((X1 ++ X2).length : Int) > (Y.length : Int)) = true := by simp; omega
          have e3 : IntKind.wrap .i64 (((X1 ++ X2).length : Int) - (Y.length : Int)) = (X2.length : Int) := wN (by simp; omega) (by omega)
          have e4 : A ++ (X1 ++ X2 ++ (Y ++ B)) = A ++ (X1 ++ (X2 ++ (Y ++ B))) := by simp
          simp only [hne, if_true, hg, ew, e4, hs, Option.bind_some, e3, hX1, Option.some.injEq, Sum.inl.injEq, Prod.mk.injEq, true_and]
          simp
      · obtain ⟨Y1, Y2, rfl, hY2⟩ : ∃ Y1 Y2, Y = Y1 ++ Y2 ∧ Y2.length = X.length := ⟨Y.take (Y.length - X.length), Y.drop (Y.length - X.length), (List.take_append_drop _ _).symm, by rw [List.length_drop]; omega⟩
        simp only [List.length_append] at hgt hk hl heq hy0
        have hs := swap_eq (a := A.length) (b := A.length + X.length + Y1.length) (n := X.length) (A := A) (X := X) (C := Y1) (Y := Y2) (B := B) (by simpa using hl') rfl rfl hY2 rfl
        have hi := ih Y2 Y1 A (X ++ B) (by omega) (by intro e; subst e; simp at hY2; omega) (by intro e; subst e; simp at heq; omega) (by omega) (by simp only [List.length_append]; omega)
        rw [loopO_on (s' := ((Y2.length : Int), (Y1.length : Int), A ++ (Y2 ++ (Y1 ++ (X ++ B))))), hi]
        · simp
        · have hg : decide ((X.length : Int) > ((Y1 ++ Y2).length : Int)) = false := by simp; omega
          have e3 : IntKind.wrap .i64 (((Y1 ++ Y2).length : Int) - (X.length : Int)) = (Y1.length : Int) := wN (by simp; omega) (by omega)
          have e4 : A ++ (X ++ (Y1 ++ Y2 ++ B)) = A ++ (X ++ (Y1 ++ (Y2 ++ B))) := by simp
          have e5 : IntKind.wrap .i64 ((m : Int) + ((Y1 ++ Y2).length : Int)) = ((m + Y1.length + X.length : Nat) : Int) := wN (by simp; omega) (by omega)
          have e6 : IntKind.wrap .i64 (((m + Y1.length + X.length : Nat) : Int) - (X.length : Int)) = ((A.length + X.length + Y1.length : Nat) : Int) := wN (by omega) (by omega)
          simp only [hne, if_true, hg, Bool.false_eq_true, if_false, ew, e4, e5, e6, hs, Option.bind_some, e3, hY2]

theorem rot_eq {a m b : Nat} {A X Y B : List T_api_Hold} (hl : (A ++ (X ++ (Y ++ B))).length < 1000000000) (ha : a = A.length) (hm : m = A.length + X.length) (hb : b = A.length + X.length + Y.length) (hX : X ≠ []) (hY : Y ≠ []) :
    slices_rotateCmpFunc_Hold (a : Int) (m : Int) (b : Int) (A ++ (X ++ (Y ++ B))) = some (A ++ (Y ++ (X ++ B))) := by
  have h := rot_loop (m := m) _ X Y A B (Nat.le_refl _) hX hY hm hl
  simp only [List.length_append] at hl
  unfold slices_rotateCmpFunc_Hold
  have e1 : IntKind.wrap .i64 ((m : Int) - (a : Int)) = (X.length : Int) := wN (by omega) (by omega)
  have e2 : IntKind.wrap .i64 ((b : Int) - (m : Int)) = (Y.length : Int) := wN (by omega) (by omega)
  rw [e1, e2]
  exact h

end Go.Av.G

namespace Go.Av.G
open Go Go.Av Go.Proofs

theorem bsearchG {f : Int × Int → Option ((Int × Int) ⊕ Int)} {lo hi : Nat} {lt : Nat → Bool} (hle : lo ≤ hi)
    (hin : ∀ i j : Nat, lo ≤ i → i < j → j ≤ hi → f ((i : Int), (j : Int)) = some (if lt ((i + j) / 2) = true then .inl ((((i + j) / 2 + 1 : Nat) : Int), (j : Int)) else .inl ((i : Int), (((i + j) / 2 : Nat) : Int))))
    (hout : ∀ i : Nat, f ((i : Int), (i : Int)) = some (.inr (i : Int))) :
    ∃ k : Nat, lo ≤ k ∧ k ≤ hi ∧ loopO f ((lo : Int), (hi : Int)) = some (k : Int) ∧ (lo < k → lt (k - 1) = true) ∧ (k < hi → lt k = false) := by
  have key : ∀ n i j : Nat, j - i ≤ n → lo ≤ i → i ≤ j → j ≤ hi → (lo < i → lt (i - 1) = true) → (j < hi → lt j = false) → ∃ k : Nat, lo ≤ k ∧ k ≤ hi ∧ loopO f ((i : Int), (j : Int)) = some (k : Int) ∧ (lo < k → lt (k - 1) = true) ∧ (k < hi → lt k = false) := by
    intro n
    induction n with
    | zero =>
      intro i j h1 h0 h2 h3 h4 h5
      obtain rfl : i = j := by omega
      exact ⟨i, h0, h3, loopO_out (hout i), h4, h5⟩
    | succ n ih =>
      intro i j h1 h0 h2 h3 h4 h5
      by_cases hij : i = j
      · subst hij
        exact ⟨i, h0, h3, loopO_out (hout i), h4, h5⟩
      · have := hin i j h0 (by omega) h3
        cases hl : lt ((i + j) / 2) with
        | true =>
          rw [hl, if_pos rfl] at this
          rw [loopO_on this]
          exact ih _ j (by omega) (by omega) (by omega) h3 (fun _ => by rw [Nat.add_sub_cancel]; exact hl) h5
        | false =>
          rw [hl, if_neg (by simp)] at this
          rw [loopO_on this]
          exact ih i _ (by omega) h0 (by omega) (by omega) h4 (fun _ => hl)
  exact key (hi - lo) lo hi (Nat.le_refl _) (Nat.le_refl _) hle (Nat.le_refl _) (by omega) (by omega)

/-- One moves up behind others. -/
theorem shift_up {e : Nat} {u : T_api_Hold} : ∀ (R1 A Z : List T_api_Hold) (k : Nat), k = A.length → k + R1.length = e → e < 1000000000 →
    loopO (fun (qj12 : Int × (List T_api_Hold)) => match qj12 with
        | (k13, row14) => (
          if (decide (k13 < (e : Int))) = true then
            (rdO row14 (IntKind.wrap .i64 (k13 + 1))).bind fun x15 =>
            (rdO row14 k13).bind fun x16 =>
            (rdO row14 k13).bind fun x17 =>
            (rdO (List.set row14 (Int.toNat k13) x15) (IntKind.wrap .i64 (k13 + 1))).bind fun x18 =>
            some (.inl (IntKind.wrap .i64 (k13 + 1), (List.set (List.set row14 (Int.toNat k13) x15) (Int.toNat (IntKind.wrap .i64 (k13 + 1))) x16)))
          else
            some (.inr row14) : Option ((Int × (List T_api_Hold)) ⊕ (List T_api_Hold)))) ((k : Int), A ++ u :: (R1 ++ Z)) = some (A ++ (R1 ++ u :: Z)) := by
  intro R1
  induction R1 with
  | nil =>
    intro A Z k hk he hb
    rw [loopO_out]
    have : decide ((k : Int) < (e : Int)) = false := by simp at he; simp; omega
    simp only [this, Bool.false_eq_true, if_false, List.nil_append]
  | cons r R1 ih =>
    intro A Z k hk he hb
    simp only [List.length_cons] at he
    have hd : decide ((k : Int) < (e : Int)) = true := by simp; omega
    have ew : IntKind.wrap .i64 ((k : Int) + 1) = ((k + 1 : Nat) : Int) := wN (by omega) (by omega)
    have := ih (A ++ [r]) Z (k + 1) (by simp [hk]) (by omega) hb
    rw [loopO_on (s' := (((k + 1 : Nat) : Int), (A ++ [r]) ++ u :: (R1 ++ Z))), this]
    · simp
    · have e1 : A ++ u :: (r :: R1 ++ Z) = A ++ u :: r :: (R1 ++ Z) := by simp
      simp only [hd, if_true, ew, e1, rd_mid hk, rd_mid2 (show k + 1 = A.length + 1 by omega), Option.bind_some, Int.toNat_natCast, set_mid hk, set_mid2 (show k + 1 = A.length + 1 by omega)]
      simp

/-- One moves down ahead of others. -/
theorem shift_down {e : Nat} {A : List T_api_Hold} {v : T_api_Hold} (he : e = A.length) : ∀ (L2 Z : List T_api_Hold) (k : Nat), k = A.length + L2.length → k < 1000000000 →
    loopO (fun (qj27 : Int × (List T_api_Hold)) => match qj27 with
          | (k28, row29) => (
            if (decide (k28 > (e : Int))) = true then
              (rdO row29 (IntKind.wrap .i64 (k28 - 1))).bind fun x30 =>
              (rdO row29 k28).bind fun x31 =>
              (rdO row29 k28).bind fun x32 =>
              (rdO (List.set row29 (Int.toNat k28) x30) (IntKind.wrap .i64 (k28 - 1))).bind fun x33 =>
              some (.inl (IntKind.wrap .i64 (k28 - 1), (List.set (List.set row29 (Int.toNat k28) x30) (Int.toNat (IntKind.wrap .i64 (k28 - 1))) x31)))
            else
              some (.inr row29) : Option ((Int × (List T_api_Hold)) ⊕ (List T_api_Hold)))) ((k : Int), A ++ (L2 ++ v :: Z)) = some (A ++ v :: (L2 ++ Z)) := by
  intro L2
  induction hn : L2.length generalizing L2 with
  | zero =>
    intro Z k hk hb
    obtain rfl : L2 = [] := List.length_eq_zero_iff.1 hn
    rw [loopO_out]
    have : decide ((k : Int) > (e : Int)) = false := by simp; omega
    simp only [this, Bool.false_eq_true, if_false, List.nil_append]
  | succ n ih =>
    intro Z k hk hb
    rcases List.eq_nil_or_concat L2 with rfl | ⟨L', z, rfl⟩
    · simp at hn
    · have hn' : L'.length = n := by simpa using hn
      have hd : decide ((k : Int) > (e : Int)) = true := by simp; omega
      have ew : IntKind.wrap .i64 ((k : Int) - 1) = ((A.length + n : Nat) : Int) := wN (by omega) (by omega)
      have := ih L' hn' (z :: Z) (A.length + n) rfl (by omega)
      have e1 : A ++ (L'.concat z ++ v :: Z) = (A ++ L') ++ z :: v :: Z := by simp
      have q1 : A.length + n = (A ++ L').length := by simp [hn']
      have q2 : k = (A ++ L').length + 1 := by simp [hn']; omega
      rw [loopO_on (s' := (((A.length + n : Nat) : Int), A ++ (L' ++ v :: (z :: Z)))), this]
      · simp
      · simp only [hd, if_true, ew, e1, rd_mid q1, rd_mid2 q2, Option.bind_some, Int.toNat_natCast, set_mid q1, set_mid2 q2]
        simp

def Ties (L R : List T_api_Hold) : Prop := ∀ u ∈ L, ∀ v ∈ R, u.f_Rank = v.f_Rank → u.f_ID < v.f_ID

theorem cut_spec {R : List T_api_Hold} (hR : Asc R) {p : T_api_Hold → Prop} (hp : ∀ x y, bef x y → p y → p x) {s : Nat} (hs : s ≤ R.length) (h1 : 0 < s → ∀ h : s - 1 < R.length, p R[s - 1]) (h2 : ∀ h : s < R.length, ¬ p R[s]) :
    (∀ x ∈ R.take s, p x) ∧ (∀ x ∈ R.drop s, ¬ p x) := by
  unfold Asc at hR
  rw [List.pairwise_iff_getElem] at hR
  constructor
  · intro x hx
    obtain ⟨i, hi, rfl⟩ := List.getElem_of_mem hx
    simp only [List.length_take] at hi
    rw [List.getElem_take]
    by_cases e : i = s - 1
    · subst e; exact h1 (by omega) (by omega)
    · exact hp _ _ (hR i (s - 1) (by omega) (by omega) (by omega)) (h1 (by omega) (by omega))
  · intro x hx
    obtain ⟨i, hi, rfl⟩ := List.getElem_of_mem hx
    simp only [List.length_drop] at hi
    rw [List.getElem_drop]
    by_cases e : i = 0
    · subst e; exact h2 (by omega)
    · intro hc
      exact h2 (by omega) (hp _ _ (hR s (s + i) (by omega) (by omega) (by omega)) hc)

theorem asc_app {X Y : List T_api_Hold} (h1 : Asc X) (h2 : Asc Y) (h : ∀ x ∈ X, ∀ y ∈ Y, bef x y) : Asc (X ++ Y) := List.pairwise_append.2 ⟨h1, h2, h⟩
theorem asc_cons {x : T_api_Hold} {Y : List T_api_Hold} (h2 : Asc Y) (h : ∀ y ∈ Y, bef x y) : Asc (x :: Y) := List.pairwise_cons.2 ⟨h, h2⟩
theorem asc_take {X : List T_api_Hold} (h : Asc X) (n : Nat) : Asc (X.take n) := List.Pairwise.sublist (List.take_sublist n X) h
theorem asc_drop {X : List T_api_Hold} (h : Asc X) (n : Nat) : Asc (X.drop n) := List.Pairwise.sublist (List.drop_sublist n X) h

theorem sym_one {fuel : Nat} {A R B : List T_api_Hold} {u : T_api_Hold} {a m b : Nat} (ha : a = A.length) (hm : m = A.length + 1) (hb : b = m + R.length) (hl : (A ++ ([u] ++ (R ++ B))).length < 1000000000) (hR : Asc R) (hT : Ties [u] R) :
    ∃ M, slices_symMergeCmpFunc_Hold (fuel + 1) (a : Int) (m : Int) (b : Int) (A ++ ([u] ++ (R ++ B))) = some (A ++ (M ++ B)) ∧ M.Perm ([u] ++ R) ∧ Asc M := by
  have hl' := hl
  simp only [List.length_append, List.length_cons, List.length_nil] at hl
  obtain ⟨row, hrow⟩ : ∃ row, A ++ ([u] ++ (R ++ B)) = row := ⟨_, rfl⟩
  have hga : rdO row (a : Int) = some u := by rw [← hrow]; exact rd_mid (B := R ++ B) ha
  have hgr : ∀ h (hh : h < R.length), rdO row ((m + h : Nat) : Int) = some R[h] := by
    intro h hh
    rw [rdO_at (by rw [← hrow]; simp; omega)]
    subst hrow
    congr 1
    rw [List.getElem_append_right (by omega), List.getElem_append_right (by simp; omega), List.getElem_append_left (by simp; omega)]
    congr 1
    simp; omega
  obtain ⟨k, k1, k2, k3, k4, k5⟩ := bsearchG (lo := m) (hi := b) (lt := fun h => (R[h - m]?).any fun x => decide (u.f_Rank < x.f_Rank)) (f := fun (qj5 : Int × Int) => match qj5 with
        | (i6, j7) => (
          if (decide (i6 < j7)) = true then
            (rdO row (IntKind.wrap .i64 (Int.fdiv (IntKind.wrap .u64 (IntKind.wrap .i64 (i6 + j7))) 2))).bind fun x8 =>
            (rdO row (a : Int)).bind fun x9 =>
            (hold_Cover_1 x8 x9).bind fun x10 =>
            if (decide (x10 < 0)) = true then
              some (.inl (IntKind.wrap .i64 ((IntKind.wrap .i64 (Int.fdiv (IntKind.wrap .u64 (IntKind.wrap .i64 (i6 + j7))) 2)) + 1), j7))
            else
              some (.inl (i6, IntKind.wrap .i64 (Int.fdiv (IntKind.wrap .u64 (IntKind.wrap .i64 (i6 + j7))) 2)))
          else
            some (.inr i6))) (by omega) (by
      intro i j h0 hij hj
      simp only [half hij (show j < 4611686018427387904 by omega)]
      have hq : (i + j) / 2 = m + ((i + j) / 2 - m) := by omega
      have hlt : (i + j) / 2 - m < R.length := by omega
      have hd : decide ((i : Int) < (j : Int)) = true := by simp; omega
      rw [hd, if_pos rfl, hq, hgr _ hlt, hga]
      obtain ⟨c, hc, hcd⟩ := cover_cmp R[(i + j) / 2 - m] u
      have e : IntKind.wrap .i64 (((m + ((i + j) / 2 - m) : Nat) : Int) + 1) = ((m + ((i + j) / 2 - m) + 1 : Nat) : Int) := wN (by omega) (by omega)
      simp only [Option.bind_some, hc, hcd, e, Nat.add_sub_cancel_left, List.getElem?_eq_getElem hlt, Option.any_some]
      split <;> rfl) (by
      intro i
      have hd : decide ((i : Int) < (i : Int)) = false := by simp
      simp only [hd, Bool.false_eq_true, if_false])
  obtain ⟨s, hs⟩ : ∃ s, k = m + s := ⟨k - m, by omega⟩
  subst hs
  have hsl : s ≤ R.length := by omega
  obtain ⟨c1, c2⟩ := cut_spec hR (p := fun x => u.f_Rank < x.f_Rank) (by intro x y hxy hy; unfold bef at hxy; omega) hsl (fun h0 h => by
      have := k4 (by omega)
      rw [show m + s - 1 - m = s - 1 by omega, List.getElem?_eq_getElem h] at this
      simpa using this) (fun h => by
      have := k5 (by omega)
      rw [show m + s - m = s by omega, List.getElem?_eq_getElem h] at this
      simpa using this)
  have hup := shift_up (e := a + s) (u := u) (R.take s) A (R.drop s ++ B) a ha (by rw [List.length_take]; omega) (by omega)
  refine ⟨R.take s ++ u :: R.drop s, ?_, ?_, ?_⟩
  · rw [slices_symMergeCmpFunc_Hold]
    have e1 : (IntKind.wrap .i64 ((m : Int) - (a : Int)) == 1) = true := by rw [wN (n := 1) (by omega) (by omega)]; rfl
    have e2 : IntKind.wrap .i64 (((m + s : Nat) : Int) - 1) = ((a + s : Nat) : Int) := wN (by omega) (by omega)
    rw [if_pos e1, hrow, k3]
    simp only [Option.bind_some, e2]
    have e3 : row = A ++ u :: (R.take s ++ (R.drop s ++ B)) := by rw [← hrow, ← List.append_assoc (R.take s), List.take_append_drop]; rfl
    rw [e3, hup]
    simp
  · have : ([u] ++ R) = u :: (R.take s ++ R.drop s) := by rw [List.take_append_drop]; rfl
    rw [this]
    exact List.perm_middle
  · refine asc_app (asc_take hR s) (asc_cons (asc_drop hR s) fun y hy => ?_) (fun x hx y hy => ?_)
    · have h1 := c2 y hy
      have h2 := hT u (by simp) y (List.mem_of_mem_drop hy)
      unfold bef; omega
    · have h1 := c1 x hx
      rcases List.mem_cons.1 hy with rfl | hy
      · exact .inl h1
      · have h2 := c2 y hy
        unfold bef; omega

theorem sym_last {fuel : Nat} {A L B : List T_api_Hold} {v : T_api_Hold} {a m b : Nat} (ha : a = A.length) (hm : m = A.length + L.length) (hb : b = m + 1) (hl : (A ++ (L ++ ([v] ++ B))).length < 1000000000) (h1 : L.length ≠ 1) (hL : Asc L) (hT : Ties L [v]) :
    ∃ M, slices_symMergeCmpFunc_Hold (fuel + 1) (a : Int) (m : Int) (b : Int) (A ++ (L ++ ([v] ++ B))) = some (A ++ (M ++ B)) ∧ M.Perm (L ++ [v]) ∧ Asc M := by
  have hl' := hl
  simp only [List.length_append, List.length_cons, List.length_nil] at hl
  obtain ⟨row, hrow⟩ : ∃ row, A ++ (L ++ ([v] ++ B)) = row := ⟨_, rfl⟩
  have hgm : rdO row (m : Int) = some v := by rw [← hrow, ← List.append_assoc]; exact rd_mid (B := B) (by simp [hm])
  have hgl : ∀ h (hh : h < L.length), rdO row ((a + h : Nat) : Int) = some L[h] := by
    intro h hh
    rw [rdO_at (by rw [← hrow]; simp; omega)]
    subst hrow
    congr 1
    rw [List.getElem_append_right (by omega), List.getElem_append_left (by omega)]
    congr 1
    omega
  obtain ⟨k, k1, k2, k3, k4, k5⟩ := bsearchG (lo := a) (hi := m) (lt := fun h => (L[h - a]?).any fun x => !decide (x.f_Rank < v.f_Rank)) (f := fun (qj20 : Int × Int) => match qj20 with
          | (i21, j22) => (
            if (decide (i21 < j22)) = true then
              (rdO row (m : Int)).bind fun x23 =>
              (rdO row (IntKind.wrap .i64 (Int.fdiv (IntKind.wrap .u64 (IntKind.wrap .i64 (i21 + j22))) 2))).bind fun x24 =>
              (hold_Cover_1 x23 x24).bind fun x25 =>
              if (!(decide (x25 < 0))) = true then
                some (.inl (IntKind.wrap .i64 ((IntKind.wrap .i64 (Int.fdiv (IntKind.wrap .u64 (IntKind.wrap .i64 (i21 + j22))) 2)) + 1), j22))
              else
                some (.inl (i21, IntKind.wrap .i64 (Int.fdiv (IntKind.wrap .u64 (IntKind.wrap .i64 (i21 + j22))) 2)))
            else
              some (.inr i21))) (by omega) (by
      intro i j h0 hij hj
      simp only [half hij (show j < 4611686018427387904 by omega)]
      have hq : (i + j) / 2 = a + ((i + j) / 2 - a) := by omega
      have hlt : (i + j) / 2 - a < L.length := by omega
      have hd : decide ((i : Int) < (j : Int)) = true := by simp; omega
      rw [hd, if_pos rfl, hq, hgl _ hlt, hgm]
      obtain ⟨c, hc, hcd⟩ := cover_cmp v L[(i + j) / 2 - a]
      have e : IntKind.wrap .i64 (((a + ((i + j) / 2 - a) : Nat) : Int) + 1) = ((a + ((i + j) / 2 - a) + 1 : Nat) : Int) := wN (by omega) (by omega)
      simp only [Option.bind_some, hc, hcd, e, Nat.add_sub_cancel_left, List.getElem?_eq_getElem hlt, Option.any_some]
      split <;> rfl) (by
      intro i
      have hd : decide ((i : Int) < (i : Int)) = false := by simp
      simp only [hd, Bool.false_eq_true, if_false])
  obtain ⟨s, hs⟩ : ∃ s, k = a + s := ⟨k - a, by omega⟩
  subst hs
  have hsl : s ≤ L.length := by omega
  obtain ⟨c1, c2⟩ := cut_spec hL (p := fun x => ¬ x.f_Rank < v.f_Rank) (by intro x y hxy hy; unfold bef at hxy; omega) hsl (fun h0 h => by
      have := k4 (by omega)
      rw [show a + s - 1 - a = s - 1 by omega, List.getElem?_eq_getElem h] at this
      simpa using this) (fun h => by
      have := k5 (by omega)
      rw [show a + s - a = s by omega, List.getElem?_eq_getElem h] at this
      simpa using this)
  have hdn := shift_down (e := a + s) (A := A ++ L.take s) (v := v) (by rw [List.length_append, List.length_take]; omega) (L.drop s) B m (by rw [List.length_append, List.length_take, List.length_drop]; omega) (by omega)
  refine ⟨L.take s ++ v :: L.drop s, ?_, ?_, ?_⟩
  · rw [slices_symMergeCmpFunc_Hold]
    have e1 : ¬ (IntKind.wrap .i64 ((m : Int) - (a : Int)) == 1) = true := by rw [wN (n := L.length) (by omega) (by omega)]; simp; omega
    have e2 : (IntKind.wrap .i64 ((b : Int) - (m : Int)) == 1) = true := by rw [wN (n := 1) (by omega) (by omega)]; rfl
    rw [if_neg e1, if_pos e2, hrow, k3]
    simp only [Option.bind_some]
    have e3 : row = (A ++ L.take s) ++ (L.drop s ++ v :: B) := by
      rw [← hrow, List.append_assoc, ← List.append_assoc (L.take s), List.take_append_drop]; rfl
    rw [e3, hdn]
    simp
  · have : (L ++ [v]) = (L.take s ++ L.drop s) ++ [v] := by rw [List.take_append_drop]
    rw [this]
    exact (List.perm_middle).trans (List.perm_append_singleton v _).symm
  · refine asc_app (asc_take hL s) (asc_cons (asc_drop hL s) fun y hy => ?_) (fun x hx y hy => ?_)
    · have h1 := c2 y hy
      exact .inl (Classical.not_not.1 h1)
    · have h1 := c1 x hx
      rcases List.mem_cons.1 hy with rfl | hy
      · have h2 := hT x (List.mem_of_mem_take hx) y (by simp)
        unfold bef; omega
      · have h2 := Classical.not_not.1 (c2 y hy)
        unfold bef; omega

end Go.Av.G

namespace Go.Av.G
open Go Go.Av Go.Proofs

theorem asc_get {X : List T_api_Hold} (h : Asc X) {i j : Nat} (hj : j < X.length) (hij : i < j) : bef (X[i]'(by omega)) X[j] := (List.pairwise_iff_getElem.1 h) i j (by omega) hj hij

/-- Where the two runs are cut, all ahead is ahead of all behind. -/
theorem cut_low {L R : List T_api_Hold} (hL : Asc L) (hR : Asc R) (hT : Ties L R) {s e : Nat} (hs : s ≤ L.length) (h : 0 < s → ∀ (h1 : s - 1 < L.length) (h2 : e < R.length), ¬ (L[s - 1]).f_Rank < (R[e]).f_Rank) : ∀ u ∈ L.take s, ∀ v ∈ R.drop e, bef u v := by
  intro u hu v hv
  obtain ⟨i, hi, rfl⟩ := List.getElem_of_mem hu
  obtain ⟨j, hj, rfl⟩ := List.getElem_of_mem hv
  simp only [List.length_take, List.length_drop] at hi hj
  rw [List.getElem_take, List.getElem_drop]
  have h0 := h (by omega) (by omega) (by omega)
  have ht := hT (L[s - 1]'(by omega)) (List.getElem_mem _) (R[e]'(by omega)) (List.getElem_mem _)
  have hm : bef (L[s - 1]'(by omega)) (R[e]'(by omega)) := by unfold bef; omega
  have h1 : bef (L[i]'(by omega)) (R[e]'(by omega)) := by
    by_cases q : i = s - 1
    · subst q; exact hm
    · exact bef_trans (asc_get hL (by omega) (by omega)) hm
  by_cases q : j = 0
  · subst q; exact h1
  · exact bef_trans h1 (asc_get hR (by omega) (by omega))

theorem cut_high {L R : List T_api_Hold} (hL : Asc L) (hR : Asc R) {s e : Nat} (he : e ≤ R.length) (h : 0 < e → ∀ (h1 : s < L.length) (h2 : e - 1 < R.length), (L[s]).f_Rank < (R[e - 1]).f_Rank) : ∀ v ∈ R.take e, ∀ u ∈ L.drop s, bef v u := by
  intro v hv u hu
  obtain ⟨i, hi, rfl⟩ := List.getElem_of_mem hv
  obtain ⟨j, hj, rfl⟩ := List.getElem_of_mem hu
  simp only [List.length_take, List.length_drop] at hi hj
  rw [List.getElem_take, List.getElem_drop]
  have hm : bef (R[e - 1]'(by omega)) (L[s]'(by omega)) := .inl (h (by omega) (by omega) (by omega))
  have h1 : bef (R[i]'(by omega)) (L[s]'(by omega)) := by
    by_cases q : i = e - 1
    · subst q; exact hm
    · exact bef_trans (asc_get hR (by omega) (by omega)) hm
  by_cases q : j = 0
  · subst q; exact h1
  · exact bef_trans h1 (asc_get hL (by omega) (by omega))

theorem ties_sub {L R L' R' : List T_api_Hold} (h : Ties L R) (h1 : ∀ x ∈ L', x ∈ L) (h2 : ∀ x ∈ R', x ∈ R) : Ties L' R' := fun u hu v hv => h u (h1 u hu) v (h2 v hv)

theorem sym_spec : ∀ (fuel : Nat) (A L R B : List T_api_Hold) (a m b : Nat), a = A.length → m = A.length + L.length → b = m + R.length → (A ++ (L ++ (R ++ B))).length < 1000000000 → L.length + R.length ≤ fuel → L ≠ [] → R ≠ [] → Asc L → Asc R → Ties L R →
    ∃ M, slices_symMergeCmpFunc_Hold fuel (a : Int) (m : Int) (b : Int) (A ++ (L ++ (R ++ B))) = some (A ++ (M ++ B)) ∧ M.Perm (L ++ R) ∧ Asc M := by
  intro fuel
  induction fuel with
  | zero =>
    intro A L R B a m b _ _ _ _ hf hLn
    exact absurd (List.length_eq_zero_iff.1 (by omega : L.length = 0)) hLn
  | succ fuel ih =>
    intro A L R B a m b ha hm hb hl hf hLn hRn hL hR hT
    have hl0 : 0 < L.length := List.length_pos_iff.2 hLn
    have hr0 : 0 < R.length := List.length_pos_iff.2 hRn
    by_cases h1 : L.length = 1
    · obtain ⟨u, rfl⟩ := List.length_eq_one_iff.1 h1
      exact sym_one ha (by simpa using hm) hb hl hR hT
    by_cases h2 : R.length = 1
    · obtain ⟨v, rfl⟩ := List.length_eq_one_iff.1 h2
      exact sym_last ha hm (by simpa using hb) hl h1 hL hT
    have hl' := hl
    simp only [List.length_append] at hl
    obtain ⟨row, hrow⟩ : ∃ row, A ++ (L ++ (R ++ B)) = row := ⟨_, rfl⟩
    have hgl : ∀ h (hh : h < L.length), rdO row ((a + h : Nat) : Int) = some L[h] := by
      intro h hh
      rw [rdO_at (by rw [← hrow]; simp; omega)]
      subst hrow
      congr 1
      rw [List.getElem_append_right (by omega), List.getElem_append_left (by omega)]
      congr 1
      omega
    have hgr : ∀ h (hh : h < R.length), rdO row ((m + h : Nat) : Int) = some R[h] := by
      intro h hh
      rw [rdO_at (by rw [← hrow]; simp; omega)]
      subst hrow
      congr 1
      rw [List.getElem_append_right (by omega), List.getElem_append_right (by omega), List.getElem_append_left (by omega)]
      congr 1
      omega
    obtain ⟨mid, hmid⟩ : ∃ mid, mid = (a + b) / 2 := ⟨_, rfl⟩
    have hab : a < b := by omega
    have em : IntKind.wrap .i64 (Int.fdiv (IntKind.wrap .u64 (IntKind.wrap .i64 ((a : Int) + (b : Int)))) 2) = (mid : Int) := by rw [half hab (by omega), hmid]
    have en : IntKind.wrap .i64 ((mid : Int) + (m : Int)) = ((mid + m : Nat) : Int) := wN (by omega) (by omega)
    -- where the search is
    obtain ⟨st, rr, hst, hsr, hsm, hs0, hs1, hs2, hs3, hif⟩ : ∃ st rr : Nat, (a ≤ st) ∧ st ≤ rr ∧ rr ≤ mid ∧ (st = a ∨ mid + m - st = b) ∧ (rr = m ∨ mid + m - rr = m) ∧ rr ≤ m ∧ mid + m - st ≤ b ∧ ((if (decide ((m : Int) > (mid : Int))) = true then
          some (IntKind.wrap .i64 (((mid + m : Nat) : Int) - (b : Int)), (mid : Int))
        else
          some ((a : Int), (m : Int))) : Option (Int × Int)) = some ((st : Int), (rr : Int)) := by
      by_cases h : mid < m
      · refine ⟨mid + m - b, mid, by omega, by omega, by omega, .inr (by omega), .inr (by omega), by omega, by omega, ?_⟩
        rw [if_pos (by simp; omega), wN (n := mid + m - b) (by omega) (by omega)]
      · refine ⟨a, m, by omega, by omega, by omega, .inl rfl, .inl rfl, by omega, by omega, ?_⟩
        rw [if_neg (by simp; omega)]
    have hrr : mid + m - rr ≥ m := by omega
    obtain ⟨k, k1, k2, k3, k4, k5⟩ := bsearchG (lo := st) (hi := rr) (lt := fun c => !decide (((L[c - a]?).any fun x => (R[mid + m - 1 - c - m]?).any fun y => decide (x.f_Rank < y.f_Rank)) = true)) (f := fun (qj38 : Int × Int) => match qj38 with
          | (start39, r40) => (
            if (decide (start39 < r40)) = true then
              (rdO row (IntKind.wrap .i64 ((IntKind.wrap .i64 (((mid + m : Nat) : Int) - 1)) - (IntKind.wrap .i64 (Int.fdiv (IntKind.wrap .u64 (IntKind.wrap .i64 (start39 + r40))) 2))))).bind fun x41 =>
              (rdO row (IntKind.wrap .i64 (Int.fdiv (IntKind.wrap .u64 (IntKind.wrap .i64 (start39 + r40))) 2))).bind fun x42 =>
              (hold_Cover_1 x41 x42).bind fun x43 =>
              if (!(decide (x43 < 0))) = true then
                some (.inl (IntKind.wrap .i64 ((IntKind.wrap .i64 (Int.fdiv (IntKind.wrap .u64 (IntKind.wrap .i64 (start39 + r40))) 2)) + 1), r40))
              else
                some (.inl (start39, IntKind.wrap .i64 (Int.fdiv (IntKind.wrap .u64 (IntKind.wrap .i64 (start39 + r40))) 2)))
            else
              some (.inr start39))) hsr (by
        intro i j h0 hij hj
        simp only [half hij (show j < 4611686018427387904 by omega)]
        have hq : (i + j) / 2 = a + ((i + j) / 2 - a) := by omega
        have hc1 : (i + j) / 2 - a < L.length := by omega
        have hc2 : mid + m - 1 - (i + j) / 2 - m < R.length := by omega
        have hd : decide ((i : Int) < (j : Int)) = true := by simp; omega
        have ep : IntKind.wrap .i64 ((IntKind.wrap .i64 (((mid + m : Nat) : Int) - 1)) - (((i + j) / 2 : Nat) : Int)) = ((m + (mid + m - 1 - (i + j) / 2 - m) : Nat) : Int) := by
          have e0 : IntKind.wrap .i64 (((mid + m : Nat) : Int) - 1) = ((mid + m - 1 : Nat) : Int) := wN (by omega) (by omega)
          rw [e0]
          exact wN (by omega) (by omega)
        rw [hd, if_pos rfl, ep, hgr _ hc2]
        have e : IntKind.wrap .i64 ((((i + j) / 2 : Nat) : Int) + 1) = (((i + j) / 2 + 1 : Nat) : Int) := wN (by omega) (by omega)
        have hg2 : rdO row (((i + j) / 2 : Nat) : Int) = some L[(i + j) / 2 - a] := by have := hgl _ hc1; rwa [← hq] at this
        obtain ⟨c, hc, hcd⟩ := cover_cmp R[mid + m - 1 - (i + j) / 2 - m] L[(i + j) / 2 - a]
        simp only [Option.bind_some, hg2, hc, hcd, e, List.getElem?_eq_getElem hc1, List.getElem?_eq_getElem hc2, Option.any_some, decide_eq_true_eq]
        split <;> rfl) (by
        intro i
        have hd : decide ((i : Int) < (i : Int)) = false := by simp
        simp only [hd, Bool.false_eq_true, if_false])
    obtain ⟨s, hs⟩ : ∃ s, k = a + s := ⟨k - a, by omega⟩
    obtain ⟨e, he⟩ : ∃ e, mid + m - k = m + e := ⟨mid + m - k - m, by omega⟩
    have hsl : s ≤ L.length := by omega
    have hel : e ≤ R.length := by omega
    have hlow : ∀ u ∈ L.take s, ∀ v ∈ R.drop e, bef u v := cut_low hL hR hT hsl (fun h0 q1 q2 hc => by
      have hk : st < k := by omega
      have := k4 hk
      rw [show k - 1 - a = s - 1 by omega, show mid + m - 1 - (k - 1) - m = e by omega, List.getElem?_eq_getElem q1, List.getElem?_eq_getElem q2] at this
      simp only [Option.any_some, decide_eq_true_eq, Bool.not_eq_true', decide_eq_false_iff_not] at this
      exact this hc)
    have hhigh : ∀ v ∈ R.take e, ∀ u ∈ L.drop s, bef v u := cut_high hL hR hel (fun h0 q1 q2 => by
      have hk : k < rr := by omega
      have := k5 hk
      rw [show k - a = s by omega, show mid + m - 1 - k - m = e - 1 by omega, List.getElem?_eq_getElem q1, List.getElem?_eq_getElem q2] at this
      simpa using this)
    obtain ⟨L1, hL1⟩ : ∃ x, L.take s = x := ⟨_, rfl⟩
    obtain ⟨L2, hL2⟩ : ∃ x, L.drop s = x := ⟨_, rfl⟩
    obtain ⟨R1, hR1⟩ : ∃ x, R.take e = x := ⟨_, rfl⟩
    obtain ⟨R2, hR2⟩ : ∃ x, R.drop e = x := ⟨_, rfl⟩
    have eL : L = L1 ++ L2 := by rw [← hL1, ← hL2, List.take_append_drop]
    have eR : R = R1 ++ R2 := by rw [← hR1, ← hR2, List.take_append_drop]
    have n1 : L1.length = s := by rw [← hL1, List.length_take]; omega
    have n2 : L2.length = L.length - s := by rw [← hL2, List.length_drop]
    have n3 : R1.length = e := by rw [← hR1, List.length_take]; omega
    have n4 : R2.length = R.length - e := by rw [← hR2, List.length_drop]
    have aL1 : Asc L1 := hL1 ▸ asc_take hL s
    have aL2 : Asc L2 := hL2 ▸ asc_drop hL s
    have aR1 : Asc R1 := hR1 ▸ asc_take hR e
    have aR2 : Asc R2 := hR2 ▸ asc_drop hR e
    rw [hL1, hR2] at hlow
    rw [hR1, hL2] at hhigh
    have cL : ∀ x ∈ L1, ∀ y ∈ L2, bef x y := by have := hL; unfold Asc at this; rw [eL, List.pairwise_append] at this; exact this.2.2
    have cR : ∀ x ∈ R1, ∀ y ∈ R2, bef x y := by have := hR; unfold Asc at this; rw [eR, List.pairwise_append] at this; exact this.2.2
    have ek : IntKind.wrap .i64 (((mid + m : Nat) : Int) - (k : Int)) = ((m + e : Nat) : Int) := wN (by omega) (by omega)
    -- the rotation
    have hrot : ((if (decide ((k : Int) < (m : Int)) && (decide ((m : Int) < ((m + e : Nat) : Int)))) = true then
          (slices_rotateCmpFunc_Hold (k : Int) (m : Int) ((m + e : Nat) : Int) row).bind fun x47 =>
          some x47
        else
          some row) : Option (List T_api_Hold)) = some (A ++ (L1 ++ (R1 ++ (L2 ++ (R2 ++ B))))) := by
      by_cases hc : k < m ∧ 0 < e
      · rw [if_pos (by simp; omega)]
        have := rot_eq (a := k) (m := m) (b := m + e) (A := A ++ L1) (X := L2) (Y := R1) (B := R2 ++ B) (by simp; omega) (by simp; omega) (by simp; omega) (by simp; omega) (by intro q; subst q; simp at n2; omega) (by intro q; subst q; simp at n3; omega)
        have er : row = (A ++ L1) ++ (L2 ++ (R1 ++ (R2 ++ B))) := by rw [← hrow, eL, eR]; simp
        rw [er, this]
        simp
      · rw [if_neg (by simp; omega), ← hrow, eL, eR]
        by_cases q : k < m
        · obtain rfl : R1 = [] := List.length_eq_zero_iff.1 (by omega)
          simp
        · obtain rfl : L2 = [] := List.length_eq_zero_iff.1 (by omega)
          simp
    -- the left half
    obtain ⟨M1, hM1, pM1, aM1⟩ : ∃ M1, ((if (decide ((a : Int) < (k : Int)) && (decide ((k : Int) < (mid : Int)))) = true then
          (slices_symMergeCmpFunc_Hold fuel (a : Int) (k : Int) (mid : Int) (A ++ (L1 ++ (R1 ++ (L2 ++ (R2 ++ B)))))).bind fun x51 =>
          some x51
        else
          some (A ++ (L1 ++ (R1 ++ (L2 ++ (R2 ++ B)))))) : Option (List T_api_Hold)) = some (A ++ (M1 ++ (L2 ++ (R2 ++ B)))) ∧ M1.Perm (L1 ++ R1) ∧ Asc M1 := by
      by_cases hc : a < k ∧ k < mid
      · obtain ⟨M1, q1, q2, q3⟩ := ih A L1 R1 (L2 ++ (R2 ++ B)) a k mid ha (by omega) (by omega) (by simp; omega) (by omega) (by intro q; subst q; simp at n1; omega) (by intro q; subst q; simp at n3; omega) aL1 aR1 (ties_sub hT (fun x hx => by rw [eL]; simp [hx]) (fun x hx => by rw [eR]; simp [hx]))
        exact ⟨M1, by rw [if_pos (by simp; omega), q1]; rfl, q2, q3⟩
      · refine ⟨L1 ++ R1, by rw [if_neg (by simp; omega)]; simp, List.Perm.refl _, ?_⟩
        by_cases q : a < k
        · obtain rfl : R1 = [] := List.length_eq_zero_iff.1 (by omega)
          rw [List.append_nil]; exact aL1
        · obtain rfl : L1 = [] := List.length_eq_zero_iff.1 (by omega)
          exact aR1
    have nM1 : M1.length = s + e := by rw [pM1.length_eq, List.length_append, n1, n3]
    -- the right half
    obtain ⟨M2, hM2, pM2, aM2⟩ : ∃ M2, ((if (decide ((mid : Int) < ((m + e : Nat) : Int)) && (decide (((m + e : Nat) : Int) < (b : Int)))) = true then
          (slices_symMergeCmpFunc_Hold fuel (mid : Int) ((m + e : Nat) : Int) (b : Int) (A ++ (M1 ++ (L2 ++ (R2 ++ B))))).bind fun x54 =>
          some x54
        else
          some (A ++ (M1 ++ (L2 ++ (R2 ++ B))))) : Option (List T_api_Hold)) = some (A ++ (M1 ++ (M2 ++ B))) ∧ M2.Perm (L2 ++ R2) ∧ Asc M2 := by
      by_cases hc : mid < m + e ∧ m + e < b
      · obtain ⟨M2, q1, q2, q3⟩ := ih (A ++ M1) L2 R2 B mid (m + e) b (by simp; omega) (by simp; omega) (by omega) (by simp; omega) (by omega) (by intro q; subst q; simp at n2; omega) (by intro q; subst q; simp at n4; omega) aL2 aR2 (ties_sub hT (fun x hx => by rw [eL]; simp [hx]) (fun x hx => by rw [eR]; simp [hx]))
        refine ⟨M2, ?_, q2, q3⟩
        have e1 : A ++ (M1 ++ (L2 ++ (R2 ++ B))) = (A ++ M1) ++ (L2 ++ (R2 ++ B)) := by simp
        rw [if_pos (by simp; omega), e1, q1]
        simp
      · refine ⟨L2 ++ R2, by rw [if_neg (by simp; omega)]; simp, List.Perm.refl _, ?_⟩
        by_cases q : mid < m + e
        · obtain rfl : R2 = [] := List.length_eq_zero_iff.1 (by omega)
          rw [List.append_nil]; exact aL2
        · obtain rfl : L2 = [] := List.length_eq_zero_iff.1 (by omega)
          exact aR2
    refine ⟨M1 ++ M2, ?_, ?_, ?_⟩
    · rw [slices_symMergeCmpFunc_Hold]
      have e1 : ¬ (IntKind.wrap .i64 ((m : Int) - (a : Int)) == 1) = true := by rw [wN (n := L.length) (by omega) (by omega)]; simp; omega
      have e2 : ¬ (IntKind.wrap .i64 ((b : Int) - (m : Int)) == 1) = true := by rw [wN (n := R.length) (by omega) (by omega)]; simp; omega
      rw [if_neg e1, if_neg e2]
      simp only [em, en, hif, Option.bind_some, hrow, k3, ek, hrot, hM1]
      rw [hM2]
      simp
    · refine (pM1.append pM2).trans ?_
      rw [eL, eR]
      simp only [List.append_assoc]
      refine List.Perm.append_left L1 ?_
      rw [← List.append_assoc, ← List.append_assoc]
      exact List.Perm.append_right R2 List.perm_append_comm
    · refine asc_app aM1 aM2 (fun x hx y hy => ?_)
      have hx := pM1.mem_iff.1 hx
      have hy := pM2.mem_iff.1 hy
      simp only [List.mem_append] at hx hy
      rcases hx with hx | hx <;> rcases hy with hy | hy
      · exact cL x hx y hy
      · exact hlow x hx y hy
      · exact hhigh x hx y hy
      · exact cR x hx y hy

end Go.Av.G

namespace Go.Av.G
open Go Go.Av Go.Proofs

/-- A row of sorted runs, each as long as that, but the last; and what it was. -/
inductive Chunks (bs : Nat) : List T_api_Hold → List T_api_Hold → Prop
  | last (d o : List T_api_Hold) (h : d.length ≤ bs) (p : d.Perm o) (s : Asc d) : Chunks bs d o
  | more (d o r l : List T_api_Hold) (h : d.length = bs) (p : d.Perm o) (s : Asc d) (t : Chunks bs r l) : Chunks bs (d ++ r) (o ++ l)

theorem Chunks.perm {bs : Nat} {r l : List T_api_Hold} (h : Chunks bs r l) : r.Perm l := by
  induction h with
  | last d o _ p _ => exact p
  | more d o r l _ p _ _ ih => exact p.append ih

theorem Chunks.one {bs : Nat} {r l : List T_api_Hold} (h : Chunks bs r l) (hl : r.length ≤ bs) : Asc r := by
  cases h with
  | last d o _ p s => exact s
  | more d o r l h p s t =>
    simp only [List.length_append] at hl
    obtain rfl : r = [] := List.length_eq_zero_iff.1 (by omega)
    rw [List.append_nil]; exact s

theorem ids_append {X Y : List T_api_Hold} (h : Ids (X ++ Y)) : Ids X ∧ Ids Y ∧ ∀ x ∈ X, ∀ y ∈ Y, x.f_ID < y.f_ID := by
  unfold Ids at h
  exact List.pairwise_append.1 h

/-- Runs of twenty. -/
theorem pass0 {n : Nat} (hn : n < 1000000) : ∀ (k : Nat) (E A : List T_api_Hold), E.length ≤ k → Ids E → n = A.length + E.length →
    ∃ E', ((loopO (fun (qj3 : Int × Int × (List T_api_Hold)) => match qj3 with
    | (a4, b5, row6) => (
      if (decide (b5 ≤ (n : Int))) = true then
        (slices_insertionSortCmpFunc_Hold a4 b5 row6).bind fun x7 =>
        some (.inl (b5, IntKind.wrap .i64 (b5 + 20), x7))
      else
        some (.inr (a4, row6)) : Option ((Int × Int × (List T_api_Hold)) ⊕ (Int × (List T_api_Hold))))) ((A.length : Int), ((A.length + 20 : Nat) : Int), A ++ E)) : Option (Int × (List T_api_Hold))).bind (fun (a8, row9) =>
  (slices_insertionSortCmpFunc_Hold a8 (n : Int) row9)) = some (A ++ E') ∧ Chunks 20 E' E := by
  intro k
  induction k with
  | zero =>
    intro E A hk hI hN
    obtain rfl : E = [] := List.length_eq_zero_iff.1 (by omega)
    rw [loopO_out (o := ((A.length : Int), A ++ []))]
    · obtain ⟨Y, y1, y2, y3⟩ := isort_spec (A := A) (X := []) (B := []) (a := A.length) (b := n) rfl (by simpa using hN) (by simp at hN ⊢; omega) hI
      simp only [List.append_nil] at y1
      exact ⟨Y, by simpa using y1, .last _ _ (by rw [y2.length_eq]; simp) y2 y3⟩
    · have : decide (((A.length + 20 : Nat) : Int) ≤ (n : Int)) = false := by simp at hN; simp; omega
      simp only [this, Bool.false_eq_true, if_false]
  | succ k ih =>
    intro E A hk hI hN
    by_cases h20 : 20 ≤ E.length
    · obtain ⟨X, E2, rfl, hX⟩ : ∃ X E2, E = X ++ E2 ∧ X.length = 20 := ⟨E.take 20, E.drop 20, (List.take_append_drop _ _).symm, by rw [List.length_take]; omega⟩
      simp only [List.length_append] at hk hN
      obtain ⟨i1, i2, _⟩ := ids_append hI
      obtain ⟨Y, y1, y2, y3⟩ := isort_spec (A := A) (X := X) (B := E2) (a := A.length) (b := A.length + 20) rfl (by omega) (by simp; omega) i1
      have hY := y2.length_eq
      obtain ⟨E', e1, e2⟩ := ih E2 (A ++ Y) (by omega) i2 (by simp; omega)
      refine ⟨Y ++ E', ?_, .more _ _ _ _ (by omega) y2 y3 e2⟩
      rw [loopO_on (s' := (((A ++ Y).length : Int), (((A ++ Y).length + 20 : Nat) : Int), (A ++ Y) ++ E2)), e1]
      · simp
      · have hd : decide (((A.length + 20 : Nat) : Int) ≤ (n : Int)) = true := by simp; omega
        have e3 : A ++ (X ++ E2) = A ++ X ++ E2 := by simp
        have e4 : IntKind.wrap .i64 (((A.length + 20 : Nat) : Int) + 20) = (((A ++ Y).length + 20 : Nat) : Int) := wN (by simp; omega) (by simp; omega)
        have e5 : ((A.length + 20 : Nat) : Int) = (((A ++ Y).length : Nat) : Int) := by simp; omega
        simp only [hd, if_true, e3, y1, Option.bind_some, e4]
        rw [e5]
    · rw [loopO_out (o := ((A.length : Int), A ++ E))]
      · obtain ⟨Y, y1, y2, y3⟩ := isort_spec (A := A) (X := E) (B := []) (a := A.length) (b := n) rfl hN (by simp; omega) hI
        simp only [List.append_nil] at y1
        exact ⟨Y, by simpa using y1, .last _ _ (by rw [y2.length_eq]; omega) y2 y3⟩
      · have : decide (((A.length + 20 : Nat) : Int) ≤ (n : Int)) = false := by simp; omega
        simp only [this, Bool.false_eq_true, if_false]

theorem ties_of {d1 d2 o1 o2 : List T_api_Hold} (p1 : d1.Perm o1) (p2 : d2.Perm o2) (h : ∀ x ∈ o1, ∀ y ∈ o2, x.f_ID < y.f_ID) : Ties d1 d2 := fun u hu v hv _ => h u (p1.mem_iff.1 hu) v (p2.mem_iff.1 hv)

/-- One round of merges. -/
theorem pass1 {n bs : Nat} (hn : n ≤ 1000) (hb0 : 0 < bs) (hb : bs ≤ 1000) : ∀ (k : Nat) (row l A : List T_api_Hold), row.length ≤ k → Chunks bs row l → Ids l → n = A.length + row.length →
    ∃ row', ((loopO (fun (qj14 : Int × Int × (List T_api_Hold)) => match qj14 with
          | (a15, b16, row17) => (
            if (decide (b16 ≤ (n : Int))) = true then
              (slices_symMergeCmpFunc_Hold 1000 a15 (IntKind.wrap .i64 (a15 + (bs : Int))) b16 row17).bind fun x18 =>
              some (.inl (b16, IntKind.wrap .i64 (b16 + (IntKind.wrap .i64 (2 * (bs : Int)))), x18))
            else
              some (.inr (a15, row17)) : Option ((Int × Int × (List T_api_Hold)) ⊕ (Int × (List T_api_Hold))))) ((A.length : Int), ((A.length + 2 * bs : Nat) : Int), A ++ row)) : Option (Int × (List T_api_Hold))).bind (fun (a19, row20) =>
        ((if (decide ((IntKind.wrap .i64 (a19 + (bs : Int))) < (n : Int))) = true then
          (slices_symMergeCmpFunc_Hold 1000 a19 (IntKind.wrap .i64 (a19 + (bs : Int))) (n : Int) row20).bind fun x22 =>
          some x22
        else
          some row20) : Option (List T_api_Hold))) = some (A ++ row') ∧ Chunks (2 * bs) row' l := by
  intro k
  induction k with
  | zero =>
    intro row l A hk hc hI hN
    obtain rfl : row = [] := List.length_eq_zero_iff.1 (by omega)
    simp only [List.length_nil, Nat.add_zero] at hN
    refine ⟨[], ?_, .last _ _ (by simp) hc.perm (by unfold Asc; simp)⟩
    rw [loopO_out (o := ((A.length : Int), A ++ []))]
    · have ew : IntKind.wrap .i64 ((A.length : Int) + (bs : Int)) = ((A.length + bs : Nat) : Int) := wN (by omega) (by omega)
      have : decide (((A.length + bs : Nat) : Int) < (n : Int)) = false := by simp; omega
      simp only [Option.bind_some, ew, this, Bool.false_eq_true, if_false]
    · have : decide (((A.length + 2 * bs : Nat) : Int) ≤ (n : Int)) = false := by simp; omega
      simp only [this, Bool.false_eq_true, if_false]
  | succ k ih =>
    intro row l A hk hc hI hN
    have ew : IntKind.wrap .i64 ((A.length : Int) + (bs : Int)) = ((A.length + bs : Nat) : Int) := wN (by omega) (by omega)
    -- two whole runs
    have two : ∀ (d o d2 o2 r2 l2 : List T_api_Hold), row = d ++ (d2 ++ r2) → l = o ++ (o2 ++ l2) → d.length = bs → d2.length = bs → d.Perm o → d2.Perm o2 → Asc d → Asc d2 → Chunks bs r2 l2 → ∃ row', ((loopO (fun (qj14 : Int × Int × (List T_api_Hold)) => match qj14 with
          | (a15, b16, row17) => (
            if (decide (b16 ≤ (n : Int))) = true then
              (slices_symMergeCmpFunc_Hold 1000 a15 (IntKind.wrap .i64 (a15 + (bs : Int))) b16 row17).bind fun x18 =>
              some (.inl (b16, IntKind.wrap .i64 (b16 + (IntKind.wrap .i64 (2 * (bs : Int)))), x18))
            else
              some (.inr (a15, row17)) : Option ((Int × Int × (List T_api_Hold)) ⊕ (Int × (List T_api_Hold))))) ((A.length : Int), ((A.length + 2 * bs : Nat) : Int), A ++ row)) : Option (Int × (List T_api_Hold))).bind (fun (a19, row20) =>
        ((if (decide ((IntKind.wrap .i64 (a19 + (bs : Int))) < (n : Int))) = true then
          (slices_symMergeCmpFunc_Hold 1000 a19 (IntKind.wrap .i64 (a19 + (bs : Int))) (n : Int) row20).bind fun x22 =>
          some x22
        else
          some row20) : Option (List T_api_Hold))) = some (A ++ row') ∧ Chunks (2 * bs) row' l := by
      intro d o d2 o2 r2 l2 er el h1 h2 p1 p2 s1 s2 t2
      subst er; subst el
      simp only [List.length_append] at hk hN
      obtain ⟨i1, i2, i3⟩ := ids_append hI
      obtain ⟨i4, i5, i6⟩ := ids_append i2
      obtain ⟨M, m1, m2, m3⟩ := sym_spec 1000 A d d2 r2 A.length (A.length + bs) (A.length + 2 * bs) rfl (by omega) (by omega) (by simp; omega) (by omega) (by intro e; subst e; simp at h1; omega) (by intro e; subst e; simp at h2; omega) s1 s2 (ties_of p1 p2 (fun x hx y hy => i3 x hx y (by simp [hy])))
      have hM : M.length = 2 * bs := by rw [m2.length_eq]; simp; omega
      obtain ⟨row', e1, e2⟩ := ih r2 l2 (A ++ M) (by omega) t2 i5 (by simp; omega)
      refine ⟨M ++ row', ?_, ?_⟩
      · rw [loopO_on (s' := (((A ++ M).length : Int), (((A ++ M).length + 2 * bs : Nat) : Int), (A ++ M) ++ r2)), e1]
        · simp
        · have hd : decide (((A.length + 2 * bs : Nat) : Int) ≤ (n : Int)) = true := by simp; omega
          have e3 : IntKind.wrap .i64 (2 * (bs : Int)) = ((2 * bs : Nat) : Int) := wN (by omega) (by omega)
          have e4 : IntKind.wrap .i64 (((A.length + 2 * bs : Nat) : Int) + ((2 * bs : Nat) : Int)) = (((A ++ M).length + 2 * bs : Nat) : Int) := wN (by simp; omega) (by simp; omega)
          have e5 : ((A.length + 2 * bs : Nat) : Int) = (((A ++ M).length : Nat) : Int) := by simp; omega
          simp only [hd, if_true, ew, m1, Option.bind_some, e3, e4]
          rw [e5]
          simp
      · have : o ++ (o2 ++ l2) = (o ++ o2) ++ l2 := by simp
        rw [this]
        exact .more _ _ _ _ hM (m2.trans (p1.append p2)) m3 e2
    cases hc with
    | last d o h p s =>
      refine ⟨row, ?_, .last _ _ (by omega) p s⟩
      rw [loopO_out (o := ((A.length : Int), A ++ row))]
      · have : decide (((A.length + bs : Nat) : Int) < (n : Int)) = false := by simp; omega
        simp only [Option.bind_some, ew, this, Bool.false_eq_true, if_false]
      · have : decide (((A.length + 2 * bs : Nat) : Int) ≤ (n : Int)) = false := by simp; omega
        simp only [this, Bool.false_eq_true, if_false]
    | more d o r l h p s t =>
      cases t with
      | more d2 o2 r2 l2 h2 p2 s2 t2 => exact two d o d2 o2 r2 l2 rfl rfl h h2 p p2 s s2 t2
      | last _ _ h2 p2 s2 =>
        by_cases hw : r.length = bs
        · exact two d o r l [] [] (by simp) (by simp) h hw p p2 s s2 (.last _ _ (by simp) (List.Perm.refl _) (by unfold Asc; simp))
        · simp only [List.length_append] at hk hN
          have hlen := p2.length_eq
          have hout : ∀ Z : List T_api_Hold, (fun (qj14 : Int × Int × (List T_api_Hold)) => match qj14 with
          | (a15, b16, row17) => (
            if (decide (b16 ≤ (n : Int))) = true then
              (slices_symMergeCmpFunc_Hold 1000 a15 (IntKind.wrap .i64 (a15 + (bs : Int))) b16 row17).bind fun x18 =>
              some (.inl (b16, IntKind.wrap .i64 (b16 + (IntKind.wrap .i64 (2 * (bs : Int)))), x18))
            else
              some (.inr (a15, row17)) : Option ((Int × Int × (List T_api_Hold)) ⊕ (Int × (List T_api_Hold))))) ((A.length : Int), ((A.length + 2 * bs : Nat) : Int), Z) = some (.inr ((A.length : Int), Z)) := fun Z => by
            have : decide (((A.length + 2 * bs : Nat) : Int) ≤ (n : Int)) = false := by simp; omega
            simp only [this, Bool.false_eq_true, if_false]
          rw [loopO_out (hout _)]
          by_cases h0 : r = []
          · subst h0
            obtain rfl : l = [] := List.length_eq_zero_iff.1 (by simpa using hlen.symm)
            refine ⟨d, ?_, by rw [List.append_nil]; exact .last _ _ (by omega) p s⟩
            have : decide (((A.length + bs : Nat) : Int) < (n : Int)) = false := by simp at hN; simp; omega
            simp only [Option.bind_some, ew, this, Bool.false_eq_true, if_false, List.append_nil]
          · have hr0 : 0 < r.length := List.length_pos_iff.2 h0
            obtain ⟨i1, i2, i3⟩ := ids_append hI
            obtain ⟨M, m1, m2, m3⟩ := sym_spec 1000 A d r [] A.length (A.length + bs) n rfl (by omega) (by omega) (by simp; omega) (by omega) (by intro e; subst e; simp at h; omega) h0 s s2 (ties_of p p2 i3)
            have hM := m2.length_eq
            simp only [List.length_append] at hM
            refine ⟨M, ?_, .last _ _ (by omega) (m2.trans (p.append p2)) m3⟩
            have hd : decide (((A.length + bs : Nat) : Int) < (n : Int)) = true := by simp; omega
            rw [List.append_nil, List.append_nil] at m1
            simp only [Option.bind_some, ew, hd, if_true, m1]

theorem stable_spec {l : List T_api_Hold} (hn : l.length ≤ 500) (hI : Ids l) : ∃ r, slices_SortStableFunc_Hold_Hold l = some r ∧ r.Perm l ∧ Asc r := by
  have key : ∀ (k bs : Nat) (row : List T_api_Hold), l.length - bs ≤ k → 0 < bs → bs ≤ 1000 → Chunks bs row l → ∃ r, loopO (fun (qj11 : Int × (List T_api_Hold)) => match qj11 with
    | (blockSize12, row13) => (
      if (decide (blockSize12 < (l.length : Int))) = true then
        ((loopO (fun (qj14 : Int × Int × (List T_api_Hold)) => match qj14 with
          | (a15, b16, row17) => (
            if (decide (b16 ≤ (l.length : Int))) = true then
              (slices_symMergeCmpFunc_Hold 1000 a15 (IntKind.wrap .i64 (a15 + blockSize12)) b16 row17).bind fun x18 =>
              some (.inl (b16, IntKind.wrap .i64 (b16 + (IntKind.wrap .i64 (2 * blockSize12))), x18))
            else
              some (.inr (a15, row17)) : Option ((Int × Int × (List T_api_Hold)) ⊕ (Int × (List T_api_Hold))))) (0, IntKind.wrap .i64 (2 * blockSize12), row13)) : Option (Int × (List T_api_Hold))).bind fun (a19, row20) =>
        ((if (decide ((IntKind.wrap .i64 (a19 + blockSize12)) < (l.length : Int))) = true then
          (slices_symMergeCmpFunc_Hold 1000 a19 (IntKind.wrap .i64 (a19 + blockSize12)) (l.length : Int) row20).bind fun x22 =>
          some x22
        else
          some row20) : Option (List T_api_Hold)).bind fun j21 =>
        some (.inl (IntKind.wrap .i64 (blockSize12 * 2), j21))
      else
        some (.inr row13) : Option ((Int × (List T_api_Hold)) ⊕ (List T_api_Hold)))) ((bs : Int), row) = some r ∧ r.Perm l ∧ Asc r := by
    intro k
    induction k with
    | zero =>
      intro bs row hk h0 hb hc
      have hp := hc.perm
      have hlen := hp.length_eq
      refine ⟨row, ?_, hp, hc.one (by omega)⟩
      rw [loopO_out]
      have : decide ((bs : Int) < (l.length : Int)) = false := by simp; omega
      simp only [this, Bool.false_eq_true, if_false]
    | succ k ih =>
      intro bs row hk h0 hb hc
      have hp := hc.perm
      have hlen := hp.length_eq
      by_cases hlt : bs < l.length
      · obtain ⟨row', e1, e2⟩ := pass1 (n := l.length) (bs := bs) (by omega) h0 hb row.length row l [] (Nat.le_refl _) hc hI (by simp [hlen])
        obtain ⟨r, r1, r2, r3⟩ := ih (2 * bs) row' (by omega) (by omega) (by omega) e2
        refine ⟨r, ?_, r2, r3⟩
        rw [← r1, loopO_on]
        have hd : decide ((bs : Int) < (l.length : Int)) = true := by simp; omega
        have e3 : IntKind.wrap .i64 (2 * (bs : Int)) = ((2 * bs : Nat) : Int) := wN (by omega) (by omega)
        have e4 : IntKind.wrap .i64 ((bs : Int) * 2) = ((2 * bs : Nat) : Int) := wN (by omega) (by omega)
        have e5 : (([] : List T_api_Hold).length : Int) = 0 := rfl
        have e6 : ((([] : List T_api_Hold).length + 2 * bs : Nat) : Int) = ((2 * bs : Nat) : Int) := by simp
        rw [e5, e6, List.nil_append, List.nil_append] at e1
        simp only [hd, if_true]
        rw [e4]
        rw [e3] at e1 ⊢
        generalize hL : loopO (fun (qj14 : Int × Int × (List T_api_Hold)) => _) ((0 : Int), ((2 * bs : Nat) : Int), row) = L at e1 ⊢
        cases L with
        | none => cases e1
        | some q =>
          simp only [Option.bind_some] at e1 ⊢
          rw [e1]
          rfl
      · refine ⟨row, ?_, hp, hc.one (by omega)⟩
        rw [loopO_out]
        have : decide ((bs : Int) < (l.length : Int)) = false := by simp; omega
        simp only [this, Bool.false_eq_true, if_false]
  unfold slices_SortStableFunc_Hold_Hold slices_stableCmpFunc_Hold
  obtain ⟨E', e1, e2⟩ := pass0 (n := l.length) (by omega) l.length l [] (Nat.le_refl _) hI (by simp)
  obtain ⟨r, r1, r2, r3⟩ := key l.length 20 E' (by omega) (by omega) (by omega) e2
  refine ⟨r, ?_, r2, r3⟩
  have e5 : (([] : List T_api_Hold).length : Int) = 0 := rfl
  have e6 : ((([] : List T_api_Hold).length + 20 : Nat) : Int) = 20 := rfl
  rw [e5, e6, List.nil_append, List.nil_append] at e1
  have e7 : ((20 : Nat) : Int) = 20 := rfl
  rw [e7] at r1
  generalize hL : loopO (fun (qj3 : Int × Int × (List T_api_Hold)) => _) ((0 : Int), (20 : Int), l) = L at e1 ⊢
  cases L with
  | none => cases e1
  | some q =>
    simp only [Option.bind_some] at e1 ⊢
    rw [e1]
    simp only [Option.bind_some]
    rw [r1]
    rfl

end Go.Av.G
