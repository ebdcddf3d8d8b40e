/- The plain law of ChartCustomers, by hand. -/
import Derived.Test.YtkcilagjhieapaaUcq
set_option linter.unusedVariables false
set_option linter.unusedSimpArgs false
set_option maxRecDepth 4000
namespace Go.Av.G
open Go Go.Av Go.Proofs

/-- A loop over a list that gathers: the state laid out in any way. -/
theorem loopL_foldE {α S T O : Type} {f : T → Option (T ⊕ O)} {l : List α} (st : Int → S → T) (step : S → α → S) (out : S → O) {s0 : S} (hn : l.length < 4611686018427387904)
    (hin : ∀ (i : Nat) (h : i < l.length), f (st (i : Int) ((l.take i).foldl step s0)) = some (.inl (st (IntKind.wrap .i64 ((i : Int) + 1)) (step ((l.take i).foldl step s0) l[i]))))
    (hout : f (st (l.length : Int) (l.foldl step s0)) = some (.inr (out (l.foldl step s0)))) : loopO f (st 0 s0) = some (out (l.foldl step s0)) := by
  have key : ∀ k, k ≤ l.length → loopO f (st 0 s0) = loopO f (st (k : Int) ((l.take k).foldl step s0)) := by
    intro k
    induction k with
    | zero => intro _; rfl
    | succ k ih =>
      intro hk
      rw [ih (by omega), loopO_on (hin k (by omega)), wrap64 (by omega) (by omega), List.take_succ_eq_append_getElem (by omega), List.foldl_append]
      rfl
  rw [key l.length (Nat.le_refl _), List.take_length]
  exact loopO_out hout

/-! ### maps -/

theorem mget_mset {κ ν : Type} [BEq κ] [LawfulBEq κ] [DecidableEq κ] (l : List (κ × ν)) (k k' : κ) (v : ν) : mget (mset l k v) k' = if k' = k then some v else mget l k' := by
  induction l with
  | nil =>
    simp only [mset, mget, List.find?_cons, List.find?_nil]
    by_cases e : k' = k
    · subst e; simp
    · have : (k' == k) = false := by simpa using e
      rw [this]; simp [e]
  | cons p l ih =>
    simp only [mset]
    by_cases h : (k == p.1) = true
    · rw [if_pos h]
      have hk : k = p.1 := by simpa using h
      simp only [mget, List.find?_cons]
      by_cases e : k' = k
      · subst e
        simp [h]
      · have : (k' == p.1) = false := by simp [← hk, e]
        simp [this, e]
    · rw [if_neg h]
      simp only [mget, List.find?_cons] at ih ⊢
      cases hp : (k' == p.1) with
      | true =>
        have e1 : k' = p.1 := by simpa using hp
        have : k' ≠ k := fun e => h (by simp [← e, e1])
        simp [this]
      | false => exact ih

def cnt (m : List (Int × Int)) (a : Int) : Int := (mget m a).getD 0
def bump (m : List (Int × Int)) (a : Int) : List (Int × Int) := mset m a (IntKind.wrap .i64 (((mget m a).getD (0 : Int)) + 1))

theorem cnt_bump (m : List (Int × Int)) (a b : Int) (h0 : 0 ≤ cnt m a) (h1 : cnt m a < 1000000000) : cnt (bump m a) b = cnt m b + if b = a then 1 else 0 := by
  unfold cnt bump at *
  rw [mget_mset]
  by_cases e : b = a
  · subst e
    simp only [if_true, Option.getD_some]
    rw [wrap64 (by omega) (by omega)]
  · simp [e]

theorem cnt_fold : ∀ (L : List Int) (m : List (Int × Int)) (n : Nat), (∀ a, 0 ≤ cnt m a ∧ cnt m a ≤ n) → n + L.length < 1000000000 → ∀ a, cnt (L.foldl bump m) a = cnt m a + (L.count a : Nat)
  | [], m, n, _, _, a => by simp
  | b :: L, m, n, h, hn, a => by
    simp only [List.length_cons] at hn
    have hb : ∀ a, cnt (bump m b) a = cnt m a + if a = b then 1 else 0 := fun a => cnt_bump m b a (h b).1 (by have := (h b).2; omega)
    rw [List.foldl_cons, cnt_fold L (bump m b) (n + 1) (fun a => by
      have := h a
      rw [hb]; split <;> omega) (by omega) a, hb, List.count_cons]
    by_cases e : a = b
    · subst e; simp; omega
    · have : ¬ (b == a) = true := by simp; exact fun h => e h.symm
      simp [e, this]

/-! ### whose accounts -/

theorem whoL_eq (l : List T_api_Record) (id : Int) : whoL l id = (l.filter (fun r => r.f_Customer == id)).map (·.f_Acc) := by
  unfold whoL
  have : ∀ (m : List T_api_Record) (s : List Int), m.foldl (fun s x => if (x.f_Customer == id) = true then s ++ [x.f_Acc] else s) s = s ++ (m.filter (fun r => r.f_Customer == id)).map (·.f_Acc) := by
    intro m
    induction m with
    | nil => intro s; simp
    | cons x m ih =>
      intro s
      rw [List.foldl_cons, ih]
      cases hx : (x.f_Customer == id) <;> simp [hx]
  simpa using this l []

theorem rise_pair {α : Type} {key : α → Int} {l : List α} (h : Rise key l) : l.Pairwise (fun a b => key a < key b) := by
  rw [List.pairwise_iff_getElem]
  intro i j hi hj hij
  exact h.lt hj hij

theorem whoL_pair {l : List T_api_Record} (h : Rise (·.f_Acc) l) (id : Int) : (whoL l id).Pairwise (· < ·) := by
  rw [whoL_eq, List.pairwise_map]
  exact (rise_pair h).filter _

theorem whoL_mem {l : List T_api_Record} {id a : Int} (h : a ∈ whoL l id) : ∃ r ∈ l, r.f_Acc = a ∧ r.f_Customer = id := by
  rw [whoL_eq] at h
  obtain ⟨r, hr, rfl⟩ := List.mem_map.1 h
  obtain ⟨h1, h2⟩ := List.mem_filter.1 hr
  exact ⟨r, h1, rfl, by simpa using h2⟩

theorem whoL_len (l : List T_api_Record) (id : Int) : (whoL l id).length ≤ l.length := by
  rw [whoL_eq, List.length_map]; exact List.length_filter_le _ _

theorem flat_len {α β : Type} {f : α → List β} {n : Nat} : ∀ (l : List α), (∀ x ∈ l, (f x).length ≤ n) → (l.flatMap f).length ≤ l.length * n
  | [], _ => by simp
  | x :: l, h => by
    have h1 := h x (by simp)
    have h2 := flat_len l (fun y hy => h y (by simp [hy]))
    rw [List.flatMap_cons, List.length_append, List.length_cons, Nat.add_mul]
    omega

theorem fold_flat {α β S : Type} {f : α → List β} {g : S → β → S} : ∀ (l : List α) (s : S), l.foldl (fun s x => (f x).foldl g s) s = (l.flatMap f).foldl g s
  | [], s => rfl
  | x :: l, s => by rw [List.foldl_cons, fold_flat l, List.flatMap_cons, List.foldl_append]

/-- Each account of a customer's is told once. -/
theorem told_once {c : T_api_Chart} (h : RightP c) {r : T_api_Record} (hr : r ∈ c.f_Records) : ((c.f_Customers.flatMap fun x => whoL c.f_Records x.f_ID).count r.f_Acc : Int) = if r.f_Customer > 0 then 1 else 0 := by
  obtain ⟨_, _, hC, hR, hok, hbad⟩ := h
  have hnd : (c.f_Customers.flatMap fun x => whoL c.f_Records x.f_ID).Nodup := by
    unfold List.Nodup
    rw [List.pairwise_flatMap]
    refine ⟨fun x _ => (whoL_pair hR x.f_ID).imp (fun h => by omega), ?_⟩
    refine (rise_pair hC).imp (fun {x y} hxy a ha b hb e => ?_)
    subst e
    obtain ⟨r1, m1, e1, e2⟩ := whoL_mem ha
    obtain ⟨r2, m2, e3, e4⟩ := whoL_mem hb
    obtain ⟨i, hi, rfl⟩ := List.getElem_of_mem m1
    obtain ⟨j, hj, rfl⟩ := List.getElem_of_mem m2
    have : i = j := hR.inj hi hj (by omega)
    subst this
    omega
  have hmem : r.f_Acc ∈ (c.f_Customers.flatMap fun x => whoL c.f_Records x.f_ID) ↔ r.f_Customer > 0 := by
    rw [List.mem_flatMap]
    constructor
    · rintro ⟨x, hx, ha⟩
      obtain ⟨r1, m1, e1, e2⟩ := whoL_mem ha
      obtain ⟨i, hi, rfl⟩ := List.getElem_of_mem m1
      obtain ⟨j, hj, rfl⟩ := List.getElem_of_mem hr
      have : i = j := hR.inj hi hj e1
      subst this
      have := hok x hx
      simp only [okC, Bool.and_eq_true, decide_eq_true_eq] at this
      omega
    · intro hpos
      have hb := hbad r hr
      simp only [badR, Bool.or_eq_false_iff, Bool.and_eq_false_iff, decide_eq_false_iff_not, Bool.not_eq_false'] at hb
      rcases hb.2 with hb | hb
      · omega
      · obtain ⟨x, hx, he⟩ := List.any_eq_true.1 hb
        refine ⟨x, hx, ?_⟩
        rw [whoL_eq]
        refine List.mem_map.2 ⟨r, List.mem_filter.2 ⟨hr, ?_⟩, rfl⟩
        simp only [beq_iff_eq] at he ⊢
        exact he.symm
  by_cases hp : r.f_Customer > 0
  · rw [if_pos hp]
    have h1 := List.nodup_iff_count.1 hnd r.f_Acc
    have h2 := List.count_pos_iff.2 (hmem.2 hp)
    omega
  · rw [if_neg hp, List.count_eq_zero.2 (fun h => hp (hmem.1 h))]
    rfl

theorem chartCustomers_plain (c : T_api_Chart) (hc : c.wf) : cashbooklaw18_ChartCustomers c = some true := by
  unfold cashbooklaw18_ChartCustomers
  obtain ⟨c', e, hf⟩ := few_spec c
  rw [e]
  simp only [Option.bind_some]
  by_cases h : RightP c'
  · rw [Right_at hf h]
    simp only [Option.bind_some, Bool.not_true, Bool.false_eq_true, if_false]
    have hn := hf.1
    have hn2 := hf.2.1
    rw [loopL_foldE (l := c'.f_Customers) (fun (i : Int) (m : List (Int × Int)) => (i, m)) (fun m x => (whoL c'.f_Records x.f_ID).foldl bump m) (fun m => (.inl m : List (Int × Int) ⊕ Bool)) (s0 := []) (by omega)]
    · simp only [Option.bind_some]
      rw [fold_flat]
      have hcnt : ∀ a, cnt ((c'.f_Customers.flatMap fun x => whoL c'.f_Records x.f_ID).foldl bump []) a = ((c'.f_Customers.flatMap fun x => whoL c'.f_Records x.f_ID).count a : Nat) := by
        intro a
        have hl := flat_len (f := fun (x : T_api_Customer) => whoL c'.f_Records x.f_ID) (n := 1000) c'.f_Customers (fun x _ => by have := whoL_len c'.f_Records x.f_ID; omega)
        rw [cnt_fold _ [] 0 (fun a => by simp [cnt, mget]) (by omega) a]
        simp [cnt, mget]
      generalize (c'.f_Customers.flatMap fun x => whoL c'.f_Records x.f_ID).foldl bump [] = m at hcnt
      rw [loopL_any (l := c'.f_Records) (fun _ => false) (o := (Sum.inr false : Unit ⊕ Bool)) (e := Sum.inl ()) (by omega)]
      · have : (c'.f_Records.any fun _ => false) = false := by induction c'.f_Records <;> simp_all
        simp only [this, Bool.false_eq_true, if_false, Option.bind_some, alive]
      · intro i hi
        have hm := hcnt c'.f_Records[i].f_Acc
        rw [told_once h (List.getElem_mem hi)] at hm
        unfold cnt at hm
        simp only [decide_eq_true_eq]
        rw [if_pos (by omega), rdO_at hi]
        simp only [Option.bind_some, hm]
        by_cases hp : c'.f_Records[i].f_Customer > 0
        · simp [hp]
        · simp [hp]
      · intro i hi
        simp only [decide_eq_true_eq]
        rw [if_neg (by omega)]
    · intro i hi
      simp only [decide_eq_true_eq]
      rw [if_pos (by omega), rdO_at hi]
      simp only [Option.bind_some]
      rw [Who_at hf h hi rfl]
      simp only [Option.bind_some, sameC, bne_self_eq_false, Bool.not_true, Bool.or_self, Bool.false_eq_true, if_false]
      generalize (c'.f_Customers.take i).foldl (fun m x => (whoL c'.f_Records x.f_ID).foldl bump m) [] = m0
      have hwl := whoL_len c'.f_Records c'.f_Customers[i].f_ID
      rw [loopL_foldE (l := whoL c'.f_Records c'.f_Customers[i].f_ID) (fun (i : Int) (m : List (Int × Int)) => (i, m)) bump (fun m => (.inl m : List (Int × Int) ⊕ ((Int × List (Int × Int)) ⊕ (List (Int × Int) ⊕ Bool)))) (s0 := m0) (by omega)]
      · rfl
      · intro j hj
        obtain ⟨r, hr, e1, e2⟩ := whoL_mem (List.getElem_mem hj)
        obtain ⟨k, hk, rfl⟩ := List.getElem_of_mem hr
        simp only [decide_eq_true_eq]
        rw [if_pos (by omega), rdO_at hj]
        simp only [Option.bind_some]
        rw [Find_at hf h hk e1]
        simp only [Option.bind_some, bne_self_eq_false, e2, Bool.or_self, Bool.not_false, Bool.true_and, Bool.false_or]
        by_cases hj0 : 0 < j
        · have hd : decide ((j : Int) > 0) = true := by simpa using hj0
          have hw : IntKind.wrap .i64 ((j : Int) - 1) = ((j - 1 : Nat) : Int) := by rw [wrap64 (by omega) (by omega)]; omega
          rw [hd, hw]
          simp only [gdO]
          rw [rdO_at (by omega)]
          simp only [Option.bind_some, Bool.true_and, decide_eq_true_eq]
          have := List.pairwise_iff_getElem.1 (whoL_pair h.2.2.2.1 c'.f_Customers[i].f_ID) (j - 1) j (by omega) hj (by omega)
          rw [if_neg (by omega)]
          rfl
        · have hd : decide ((j : Int) > 0) = false := by simp; omega
          rw [hd]
          simp only [gdO, Option.bind_some, Bool.false_and, Bool.false_eq_true, if_false]
          rfl
      · simp only [decide_eq_true_eq]
        rw [if_neg (by omega)]
    · simp only [decide_eq_true_eq]
      rw [if_neg (by omega)]
  · rw [Right_not hf h, Who_bad hf h]
    simp only [Option.bind_some, alive]
    rfl
end Go.Av.G
