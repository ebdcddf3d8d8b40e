/- Plain laws of holds: what is covered; the live question. -/
import Derived.Test.YtkcilagjhieapaaUhs
set_option linter.unusedVariables false
set_option linter.unusedSimpArgs false
set_option maxRecDepth 4000
set_option maxHeartbeats 4000000
namespace Go.Av.G
open Go Go.Av Go.Proofs

theorem bef_irr {x : T_api_Hold} : ¬ bef x x := by unfold bef; omega
theorem bef_asymm {x y : T_api_Hold} (h : bef x y) : ¬ bef y x := by unfold bef at *; omega

/-- A sorted list is told by what is in it. -/
theorem asc_unique : ∀ {l m : List T_api_Hold}, l.Perm m → Asc l → Asc m → l = m
  | [], m, p, _, _ => (List.Perm.nil_eq p)
  | x :: t, [], p, _, _ => by have := p.length_eq; simp at this
  | x :: t, y :: s, p, h1, h2 => by
    unfold Asc at h1 h2
    rw [List.pairwise_cons] at h1 h2
    have hx : x ∈ y :: s := p.mem_iff.1 (by simp)
    have hy : y ∈ x :: t := p.mem_iff.2 (by simp)
    have e : x = y := by
      rcases List.mem_cons.1 hx with e | hx
      · exact e
      · rcases List.mem_cons.1 hy with e | hy
        · exact e.symm
        · exact absurd (h1.1 y hy) (bef_asymm (h2.1 x hx))
    subst e
    rw [asc_unique (List.Perm.cons_inv p) h1.2 h2.2]

theorem ids_of_rise {l : List T_api_Hold} (h : Rise (fun x : T_api_Hold => x.f_ID) l) : Ids l := by
  unfold Ids
  rw [List.pairwise_iff_getElem]
  intro i j hi hj hij
  exact h.lt hj hij

/-! ### what each gets -/

def lesser (a b : Int) : Int := if a < b then a else b
def covL (now : Int) : Int → List T_api_Hold → List T_api_Covered
  | _, [] => []
  | left, h :: t => ⟨h.f_ID, lesser (restH h now) left⟩ :: covL now (left - lesser (restH h now) left) t
def covR (now : Int) : Int → List T_api_Hold → Int
  | left, [] => left
  | left, h :: t => covR now (left - lesser (restH h now) left) t

theorem lesser_range {a b : Int} (ha : 0 ≤ a) (hb : 0 ≤ b) : 0 ≤ lesser a b ∧ lesser a b ≤ b ∧ lesser a b ≤ a := by unfold lesser; split <;> omega

theorem covL_length (now : Int) : ∀ (l : List T_api_Hold) (left : Int), (covL now left l).length = l.length
  | [], _ => rfl
  | h :: t, left => by simp [covL, covL_length now t]

theorem covL_append (now : Int) : ∀ (a b : List T_api_Hold) (left : Int), covL now left (a ++ b) = covL now left a ++ covL now (covR now left a) b
  | [], _, _ => rfl
  | h :: t, b, left => by simp [covL, covR, covL_append now t b]

theorem covR_append (now : Int) : ∀ (a b : List T_api_Hold) (left : Int), covR now left (a ++ b) = covR now (covR now left a) b
  | [], _, _ => rfl
  | h :: t, b, left => by simp [covR, covR_append now t b]

theorem covR_range (now : Int) : ∀ (l : List T_api_Hold) (left : Int), 0 ≤ left → 0 ≤ covR now left l ∧ covR now left l ≤ left
  | [], left, h => ⟨h, Int.le_refl _⟩
  | h :: t, left, h0 => by
    have h1 := lesser_range (restH_range h now).1 h0
    have := covR_range now t (left - lesser (restH h now) left) (by omega)
    simp only [covR]
    omega

theorem cov_loop {now : Int} {r : List T_api_Hold} (hn : r.length ≤ 1000) : ∀ (t pre : List T_api_Hold) (left : Int) (row : List T_api_Covered), r = pre ++ t → 0 ≤ left → left < 9223372036854775808 → row.length = pre.length →
    loopO (fun (qj9 : Int × (List T_api_Hold) × Int × (List T_api_Covered)) => match qj9 with
      | (left10, x11, x12, row13) => (
        if (decide (x12 < (r.length : Int))) = true then
          (rdO x11 x12).bind fun x14 =>
          (hold_Rest x14 now).bind fun x15 =>
          (apO 16 row13 [(⟨x14.f_ID, (if x15 < left10 then x15 else left10)⟩ : T_api_Covered)]).bind fun x16 =>
          some (.inl (IntKind.wrap .i64 (left10 - (if x15 < left10 then x15 else left10)), x11, IntKind.wrap .i64 (x12 + 1), x16))
        else
          some (.inr row13) : Option ((Int × (List T_api_Hold) × Int × (List T_api_Covered)) ⊕ (List T_api_Covered)))) (left, r, ((pre.length : Nat) : Int), row) = some (row ++ covL now left t) := by
  intro t
  induction t with
  | nil =>
    intro pre left row hr _ _ _
    rw [loopO_out (o := row)]
    · simp [covL]
    · have : decide ((pre.length : Int) < (r.length : Int)) = false := by rw [hr]; simp
      simp only [this, Bool.false_eq_true, if_false]
  | cons h t ih =>
    intro pre left row hr h0 h1 hl
    have hlen : r.length = pre.length + (t.length + 1) := by rw [hr]; simp
    have hq := lesser_range (restH_range h now).1 h0
    have hd : decide ((pre.length : Int) < (r.length : Int)) = true := by simp; omega
    have e1 : IntKind.wrap .i64 ((pre.length : Int) + 1) = ((pre.length + 1 : Nat) : Int) := wN (by omega) (by omega)
    have e2 : IntKind.wrap .i64 (left - lesser (restH h now) left) = left - lesser (restH h now) left := wrap64 (by omega) (by omega)
    have hx : rdO r (pre.length : Int) = some h := by rw [hr]; exact rd_mid rfl
    have := ih (pre ++ [h]) (left - lesser (restH h now) left) (row ++ [⟨h.f_ID, lesser (restH h now) left⟩]) (by simp [hr]) (by omega) (by omega) (by simp [hl])
    rw [loopO_on (s' := (left - lesser (restH h now) left, r, (((pre ++ [h]).length : Nat) : Int), row ++ [⟨h.f_ID, lesser (restH h now) left⟩])), this]
    · simp [covL]
    · have ea : apO 16 row [(⟨h.f_ID, lesser (restH h now) left⟩ : T_api_Covered)] = some (row ++ [⟨h.f_ID, lesser (restH h now) left⟩]) := apO_eq (by simp; omega)
      unfold lesser at ea e2
      simp only [hd, if_true, hx, Option.bind_some, rest_eq, ea, e1, e2]
      unfold lesser
      simp

theorem collect_fold : ∀ (l s : List T_api_Hold), s.length + l.length ≤ 1000 → foldO (fun s x => apO 64 s [x]) s l = some (s ++ l)
  | [], s, _ => by simp [foldO]
  | h :: t, s, hl => by
    simp only [List.length_cons] at hl
    simp only [foldO]
    rw [apO_eq (by simp; omega)]
    simp only [Option.bind_some]
    rw [collect_fold t (s ++ [h]) (by simp; omega)]
    simp

theorem collect_eq {l : List T_api_Hold} (hn : l.length ≤ 500) (acc cur now : Int) : hold_collect l acc cur now = some (l.filter (selB acc cur now)) := by
  unfold hold_collect
  rw [those_eq (by omega)]
  simp only [Option.bind_some]
  have := List.length_filter_le (selB acc cur now) l
  rw [collect_fold _ _ (by simp; omega), List.nil_append]

/-- The holds by rank, then by number. -/
def byRank (s : List T_api_Hold) : Nat → List T_api_Hold
  | 0 => s.filter fun h => h.f_Rank == 0
  | k + 1 => (s.filter fun h => h.f_Rank == ((k + 1 : Nat) : Int)) ++ byRank s k

theorem byRank_mem {s : List T_api_Hold} : ∀ {k : Nat} {x : T_api_Hold}, x ∈ byRank s k → x ∈ s ∧ 0 ≤ x.f_Rank ∧ x.f_Rank ≤ k
  | 0, x, h => by
    simp only [byRank, List.mem_filter, beq_iff_eq] at h
    exact ⟨h.1, by omega, by omega⟩
  | k + 1, x, h => by
    simp only [byRank, List.mem_append, List.mem_filter, beq_iff_eq] at h
    rcases h with h | h
    · exact ⟨h.1, by omega, by omega⟩
    · have := byRank_mem h
      exact ⟨this.1, this.2.1, by omega⟩

theorem asc_rank {s : List T_api_Hold} (h : Ids s) (k : Int) : Asc (s.filter fun h => h.f_Rank == k) := by
  unfold Asc
  rw [List.pairwise_filter]
  exact List.Pairwise.imp (fun {a b} hab ha hb => by
    simp only [beq_iff_eq] at ha hb
    exact .inr ⟨by omega, hab⟩) h

theorem asc_byRank {s : List T_api_Hold} (h : Ids s) : ∀ k : Nat, Asc (byRank s k)
  | 0 => asc_rank h 0
  | k + 1 => by
    refine asc_app (asc_rank h _) (asc_byRank h k) (fun x hx y hy => ?_)
    have hy := byRank_mem hy
    simp only [List.mem_filter, beq_iff_eq] at hx
    exact .inl (by omega)

theorem perm_byRank (s : List T_api_Hold) : ∀ k : Nat, (byRank s k).Perm (s.filter fun h => decide (0 ≤ h.f_Rank ∧ h.f_Rank ≤ (k : Int)))
  | 0 => by
    have : (fun h : T_api_Hold => h.f_Rank == 0) = fun h => decide (0 ≤ h.f_Rank ∧ h.f_Rank ≤ ((0 : Nat) : Int)) := by
      funext h
      rw [Bool.eq_iff_iff]
      simp
      omega
    rw [byRank, this]
  | k + 1 => by
    rw [byRank]
    refine (List.Perm.append_left _ (perm_byRank s k)).trans ?_
    have h1 : (s.filter fun h => h.f_Rank == ((k + 1 : Nat) : Int)) = (s.filter fun h => decide (0 ≤ h.f_Rank ∧ h.f_Rank ≤ ((k + 1 : Nat) : Int))).filter fun h => h.f_Rank == ((k + 1 : Nat) : Int) := by
      rw [List.filter_filter]
      congr 1
      funext h
      rw [Bool.eq_iff_iff]
      simp
      omega
    have h2 : (s.filter fun h => decide (0 ≤ h.f_Rank ∧ h.f_Rank ≤ (k : Int))) = (s.filter fun h => decide (0 ≤ h.f_Rank ∧ h.f_Rank ≤ ((k + 1 : Nat) : Int))).filter fun h => !(h.f_Rank == ((k + 1 : Nat) : Int)) := by
      rw [List.filter_filter]
      congr 1
      funext h
      rw [Bool.eq_iff_iff]
      simp
      omega
    rw [h1, h2]
    exact List.filter_append_perm _ _

theorem cover_bad {l : List T_api_Hold} (hn : l.length < 4611686018427387904) (hb : chkH l ≠ 0) (acc cur now funds : Int) : hold_Cover l acc cur now funds = some ([], chkH l) := by
  unfold hold_Cover
  rw [check_eq l hn]
  simp only [Option.bind_some]
  rw [if_pos (by simpa using hb)]

theorem sel_rank {l : List T_api_Hold} {acc cur now : Int} {x : T_api_Hold} (h : x ∈ l.filter (selB acc cur now)) : 0 ≤ x.f_Rank ∧ x.f_Rank ≤ 9 := by
  rw [List.mem_filter] at h
  have := h.2
  unfold selB at this
  simp only [Bool.and_eq_true] at this
  have := okH_spec (live_ok this.2.2)
  omega

theorem byRank_all {s : List T_api_Hold} (h : ∀ x ∈ s, 0 ≤ x.f_Rank ∧ x.f_Rank ≤ 9) : (byRank s 9).Perm s := by
  refine (perm_byRank s 9).trans ?_
  rw [List.filter_eq_self.2 (fun x hx => by have := h x hx; simp; omega)]

theorem cover_eq {l : List T_api_Hold} (hg : GoodL l) {funds : Int} (hf : funds < 9223372036854775808) (acc cur now : Int) :
    hold_Cover l acc cur now funds = some (covL now (if 0 > funds then 0 else funds) (byRank (l.filter (selB acc cur now)) 9), 0) := by
  have hfew := hg.few
  have hids : Ids (l.filter (selB acc cur now)) := List.Pairwise.sublist List.filter_sublist (ids_of_rise hg.rise)
  have hfl := List.length_filter_le (selB acc cur now) l
  obtain ⟨r, r1, r2, r3⟩ := stable_spec (l := l.filter (selB acc cur now)) (by omega) hids
  have hr : r = byRank (l.filter (selB acc cur now)) 9 := asc_unique (r2.trans (byRank_all (fun x hx => sel_rank hx)).symm) r3 (asc_byRank hids 9)
  have hlr := r2.length_eq
  unfold hold_Cover
  rw [check_eq l (by omega), chkH_good.2 hg]
  simp only [Option.bind_some, bne_self_eq_false, Bool.false_eq_true, if_false, collect_eq (show l.length ≤ 500 by omega), r1]
  have h0 : 0 ≤ (if 0 > funds then 0 else funds) ∧ (if 0 > funds then 0 else funds) < 9223372036854775808 := by split <;> omega
  have := cov_loop (now := now) (r := r) (by omega) r [] (if 0 > funds then 0 else funds) [] rfl h0.1 h0.2 rfl
  simp only [List.length_nil, Int.natCast_zero, List.nil_append] at this
  have e0 : ((0 : Nat) : Int) = 0 := rfl
  try rw [e0] at this
  rw [this]
  simp only [Option.bind_some, hr]

end Go.Av.G

namespace Go.Av.G
open Go Go.Av Go.Proofs

theorem sameH (x : T_api_Hold) : T_api_Hold.same x x = true := by rw [T_api_Hold.same_iff]; simp
theorem sameCov (x : T_api_Covered) : T_api_Covered.same x x = true := by rw [T_api_Covered.same_iff]; simp

theorem covered_same (a : List T_api_Covered) (hn : a.length < 4611686018427387904) : cashbookref25_Covered a a = some true := by
  unfold cashbookref25_Covered
  rw [if_neg (by simp), loopL_any (l := a) (fun _ => false) (o := (Sum.inr false : Unit ⊕ Bool)) (e := Sum.inl ()) hn]
  · have : (a.any fun _ => false) = false := by simp
    rw [this]
    rfl
  · intro i h
    simp only [decide_eq_true_eq]
    rw [if_pos (by omega), rdO_at h]
    simp only [Option.bind_some, sameCov]
    rfl
  · intro i h
    simp only [decide_eq_true_eq]
    rw [if_neg (by omega)]

def h2 : T_api_Hold := ⟨2, 1, ⟨0, 100⟩, 0, 0, 9, 0, false⟩
def h3 : T_api_Hold := ⟨3, 1, ⟨0, 100⟩, 3, 0, 9, 0, false⟩
def h5 : T_api_Hold := ⟨5, 1, ⟨0, 100⟩, 3, 0, 9, 0, false⟩
def h3t : T_api_Hold := ⟨3, 1, ⟨0, 100⟩, 3, 0, 9, 40, false⟩
def h5d : T_api_Hold := ⟨5, 1, ⟨0, 100⟩, 3, 0, 9, 0, true⟩
theorem gA : GoodL [h2, h5] := chkH_good.1 (by decide +kernel)
theorem gB : GoodL [h2, h3, h5] := chkH_good.1 (by decide +kernel)
theorem gC : GoodL [h2, h3t, h5] := chkH_good.1 (by decide +kernel)
theorem gD : GoodL [h2, h3t, h5d] := chkH_good.1 (by decide +kernel)

theorem a_add : hold_Add [h2, h5] h3 = some ([h2, h3, h5], 0) := by rw [add_eq gA]; decide +kernel
theorem a_cap : hold_Capture [h2, h3, h5] 3 ⟨0, 40⟩ 9 false = some ([h2, h3t, h5], 0) := by
  have := cap_at gB (i := 1) (by decide) ⟨0, 40⟩ 9 false
  exact this.trans (by decide +kernel)
theorem a_held : hold_Capture [h2, h3t, h5] 3 ⟨0, 61⟩ 9 false = some ([], 17) := by
  have := cap_at gC (i := 1) (by decide) ⟨0, 61⟩ 9 false
  exact this.trans (by decide +kernel)
theorem a_state : hold_Capture [h2, h3t, h5] 3 ⟨0, 60⟩ 10 false = some ([], 27) := by
  have := cap_at gC (i := 1) (by decide) ⟨0, 60⟩ 10 false
  exact this.trans (by decide +kernel)
theorem a_cover : hold_Cover [h2, h3t, h5] 1 0 0 170 = some ([⟨3, 60⟩, ⟨5, 100⟩, ⟨2, 10⟩], 0) := by
  rw [cover_eq gC (by decide)]; decide +kernel
theorem a_sum : hold_Sum [h2, h3t, h5] 1 0 0 3 = some (160, 0) := by rw [sum_eq gC]; decide +kernel
theorem a_rel : hold_Release [h2, h3t, h5] 5 = some ([h2, h3t, h5d], 0) := by
  have := rel_at gC (i := 2) (by decide)
  exact this.trans (by decide +kernel)
theorem a_done : hold_Release [h2, h3t, h5d] 5 = some ([], 23) := by
  have := rel_at gD (i := 2) (by decide)
  exact this.trans (by decide +kernel)
theorem a_dup : hold_Add [h2, h3, h5] h2 = some ([], 26) := by rw [add_eq gB]; decide +kernel
theorem a_sum2 : hold_Sum [h2, h3t, h5d] 1 0 0 0 = some (160, 0) := by rw [sum_eq gD]; decide +kernel

theorem alive : cashbooklaw25_alive = some true := by
  have o2 : cashbooklaw25_one 2 0 = some h2 := rfl
  have o3 : cashbooklaw25_one 3 3 = some h3 := rfl
  have o5 : cashbooklaw25_one 5 3 = some h5 := rfl
  have q1 : rdO [h2, h3, h5] 1 = some h3 := rfl
  have q2 : rdO [h2, h3t, h5] 1 = some h3t := rfl
  have q3 : hold_Check [h2, h2] = some 20 := by rw [check_eq _ (by decide)]; decide +kernel
  have l1 : liveH h3t 9 = true := by decide +kernel
  have l2 : restH h3t 9 = 60 := by decide +kernel
  have l3 : restH h3t 10 = 0 := by decide +kernel
  unfold cashbooklaw25_alive
  simp only [o2, o3, o5, Option.bind_some, a_add, a_cap, a_held, a_state, a_cover, a_sum, a_rel, a_done, a_dup, a_sum2, covered_same [⟨3, 60⟩, ⟨5, 100⟩, ⟨2, 10⟩] (by decide)]
  rw [if_neg (by decide)]
  have e1 : (h3.f_ID == 3) = true := rfl
  have e2 : (h3t.f_Taken == 40) = true := rfl
  simp only [q1, q2, Option.bind_some, live_eq, rest_eq, l1, l2, l3, q3, o2, gdO, beq_self_eq_true, e1, e2, Bool.and_self, Bool.true_and, Bool.and_true]

end Go.Av.G
