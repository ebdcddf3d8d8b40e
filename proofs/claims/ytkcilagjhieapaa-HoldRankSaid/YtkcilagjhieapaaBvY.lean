/- Regions whose order is drawn, in which rows of the call's own are given up. -/
import Derived.Test.YtkcilagjhieapaaBvZ
set_option linter.unusedVariables false
set_option linter.unusedSimpArgs false
namespace Go.Av

/-! ### the test -/

def AOp.insX : AOp → Option Nat
  | .ins _ _ _ x _ _ => some x
  | _ => none

/-- The row that an operation gives up. -/
def zkey (F : St) (g : GOp) : List Key := match g.op.insX with
  | some x => (match F.get x with | .own k => [k] | _ => [])
  | none => []
def zkeys (F : St) (gs : List GOp) : List Key := gs.flatMap (zkey F)

def zone (F : St) (g : GOp) : Bool := match g.op.insX with
  | some x => (match F.get x with
    | .own k => F.sl.all (fun p => p.1 == x || !p.2.names k) && F.hp.all (fun p => !p.2.names k)
    | _ => false)
  | none => true
/-- No one else names the rows that are given up. -/
def zOK (F : St) (gs : List GOp) : Bool := gs.all (zone F)

/-- No one else looks at the slots of the rows that are given up. -/
def zStat (gs : List GOp) : Bool := (List.range gs.length).all fun i => match gs[i]? with
  | some g => !g.op.isB && (match g.op.insX with
    | some x => g.g.isNone && (List.range gs.length).all (fun j => i == j || (match gs[j]? with | some g' => !g'.looks.contains x | none => true))
    | none => true)
  | none => true

theorem zStat_spec {gs : List GOp} (h : zStat gs = true) {i : Nat} {g : GOp} (hg : gs[i]? = some g) : g.op.isB = false ∧ ∀ x, g.op.insX = some x → g.g = none ∧ ∀ j g', j ≠ i → gs[j]? = some g' → x ∉ g'.looks := by
  have hlt := (List.getElem?_eq_some_iff.1 hg).1
  have := List.all_eq_true.1 h i (List.mem_range.2 hlt)
  rw [hg] at this
  simp only [Bool.and_eq_true, Bool.not_eq_true'] at this
  refine ⟨this.1, fun x hx => ?_⟩
  have h2 := this.2
  rw [hx] at h2
  simp only [Bool.and_eq_true, Option.isNone_iff_eq_none] at h2
  refine ⟨h2.1, fun j g' hj hg' hm => ?_⟩
  have hlt' := (List.getElem?_eq_some_iff.1 hg').1
  have h3 := List.all_eq_true.1 h2.2 j (List.mem_range.2 hlt')
  rw [hg'] at h3
  have e : (i == j) = false := by simp; omega
  rw [e] at h3
  simp [hm] at h3

theorem getS_mem (l : List (Nat × SV)) (t : Nat) : getS l t = .dead ∨ (t, getS l t) ∈ l := by
  induction l with
  | nil => exact .inl rfl
  | cons p l ih =>
    obtain ⟨i, v⟩ := p
    rw [getS_put]
    by_cases e : i = t
    · subst e; rw [if_pos rfl]; exact .inr (by simp)
    · rw [if_neg e]
      rcases ih with h | h
      · exact .inl h
      · exact .inr (by simp [h])
theorem lookH_mem2 {l : List (Key × HObj)} {k : Key} {o : HObj} (h : lookH l k = some o) : (k, o) ∈ l := by
  induction l with
  | nil => cases h
  | cons p l ih =>
    obtain ⟨k', o'⟩ := p
    simp only [lookH] at h
    split at h
    · rename_i e; subst e; cases h; simp
    · simp [ih h]

theorem zOK_spec {F : St} {gs : List GOp} (h : zOK F gs = true) {i : Nat} {g : GOp} (hg : gs[i]? = some g) {x : Nat} (hx : g.op.insX = some x) {k : Key} (hk : k ∈ zkey F g) :
    F.get x = .own k ∧ (∀ t, t ≠ x → (F.get t).names k = false) ∧ ∀ k' o, F.look k' = some o → o.names k = false := by
  have h := List.all_eq_true.1 h g (List.mem_of_getElem? hg)
  unfold zone at h
  unfold zkey at hk
  simp only [hx] at h hk
  cases hF : F.get x with
  | own k0 =>
    rw [hF] at h hk
    simp only [List.mem_singleton] at hk
    subst hk
    simp only [Bool.and_eq_true, List.all_eq_true, Bool.or_eq_true, Bool.not_eq_true', beq_iff_eq] at h
    refine ⟨rfl, fun t ht => ?_, fun k' o ho => h.2 _ (lookH_mem2 ho)⟩
    rcases getS_mem F.sl t with e | e
    · show (getS F.sl t).names k = false
      rw [e]; rfl
    · rcases h.1 _ e with e2 | e2
      · exact absurd e2 ht
      · exact e2
  | _ => rw [hF] at h; simp at h

theorem zkey_ins {F : St} {g : GOp} {k : Key} (h : k ∈ zkey F g) : ∃ x, g.op.insX = some x := by
  unfold zkey at h
  split at h
  · rename_i x hx; exact ⟨x, hx⟩
  · simp at h

theorem insX_look {g : GOp} {x : Nat} (h : g.op.insX = some x) : x ∈ g.looks := by
  unfold AOp.insX at h
  split at h
  · rename_i f sz by' y i z hop
    cases h
    simp [GOp.looks, AOp.tmps, hop, AOp.opds]
  · cases h

section
variable {cl : Callee} {ops : List Oper} {gs : List GOp} {ks : List Key} {S : Nat → St}

theorem Seg.get_end (hD : DrawOK ops gs ks) (hR : Runs cl gs S) (hnB : ∀ (i : Nat) (g : GOp), gs[i]? = some g → g.op.isB = false) {L : Nat → Prop} {σ F : St} (h : Seg cl gs S 0 L σ) (hF : Seg cl gs S 0 (fun i => i < gs.length) F)
    {j : Nat} {g : GOp} (hg : gs[j]? = some g) (hreach : ∀ i, Reach ops j i → L i) {t : Nat} (ht : t ∈ g.looks) : σ.get t = F.get t := by
  by_cases hc : ∃ (i : Nat) (g' : GOp), gs[i]? = some g' ∧ g'.d = some t
  · obtain ⟨i, g', hg', hd⟩ := hc
    obtain ⟨q1, q2⟩ := hD.looks j g hg t ht i g' hg' hd
    obtain ⟨e', he', _⟩ := effOf_step (hR.at' i g' hg') (hnB i g' hg')
    rw [h.g2 i g' e' t (Nat.zero_le _) (hreach i q2) hg' he' hd, hF.g2 i g' e' t (Nat.zero_le _) (List.getElem?_eq_some_iff.1 hg').1 hg' he' hd]
  · rw [h.g1 t (fun i g' _ _ hg' hd => hc ⟨i, g', hg', hd⟩), hF.g1 t (fun i g' _ _ hg' hd => hc ⟨i, g', hg', hd⟩)]

theorem Seg.look_end (hD : DrawOK ops gs ks) (hR : Runs cl gs S) (h0 : ∀ k ∈ ks, (S 0).look k = none) {L : Nat → Prop} {σ F : St} (h : Seg cl gs S 0 L σ) (hF : Seg cl gs S 0 (fun i => i < gs.length) F) {k : Key} {o : HObj} (ho : σ.look k = some o) : F.look k = some o := by
  by_cases hc : ∃ i g e o', L i ∧ gs[i]? = some g ∧ effOf cl (S i) g = some e ∧ lookH e.ins k = some o'
  · obtain ⟨i, g, e, o', hl, hg, he, hi⟩ := hc
    rw [h.l2 i g e k o' (Nat.zero_le _) hl hg he hi] at ho
    cases ho
    exact hF.l2 i g e k o (Nat.zero_le _) (List.getElem?_eq_some_iff.1 hg).1 hg he hi
  · have e1 := h.l1 k (fun i g e _ hl hg he => by
      cases hi : lookH e.ins k with
      | none => rfl
      | some o' => exact (hc ⟨i, g, e, o', hl, hg, he, hi⟩).elim)
    rw [ho] at e1
    rw [hF.l1 k (fun i g e _ hl hg he => by
      cases hi : lookH e.ins k with
      | none => rfl
      | some o' =>
        obtain ⟨hk, _⟩ := insKey hD.toDrawBase hg he hi
        rw [fresh hD.toDrawBase hR h0 hg hk 0 (Nat.zero_le _)] at e1; cases e1), ← e1]

theorem effOf_local {σ τ : St} {g : GOp} {e : Eff} (hget : ∀ t ∈ g.looks, τ.get t = σ.get t) (hlk : ∀ t ∈ g.looks, Covers σ τ (σ.get t)) (he : effOf cl σ g = some e) : effOf cl τ g = some e := by
  have hwants : τ.wants g.g = σ.wants g.g := by
    cases hgg : g.g with
    | none => rfl
    | some p =>
      obtain ⟨t, b⟩ := p
      simp only [St.wants]
      rw [hget t (by simp [GOp.looks, hgg])]
  unfold effOf at he ⊢
  rw [hwants]
  split at he
  · cases he
  · rename_i hw
    exact he
  · rename_i hw
    have hx : ∀ x ∈ g.op.opds, (τ.ev x = σ.ev x) ∧ Covers σ τ (σ.ev x) := by
      intro x hx
      cases x with
      | tmp t =>
        have hm : t ∈ g.looks := by
          simp only [GOp.looks, List.mem_append]
          exact .inr (by simp only [AOp.tmps, List.mem_filterMap]; exact ⟨_, hx, rfl⟩)
        exact ⟨hget t hm, hlk t hm⟩
      | cst p => exact ⟨rfl, fun k o hn => by simp [St.ev, SV.names] at hn⟩
      | nils => exact ⟨rfl, fun k o hn => by simp [St.ev, SV.names] at hn⟩
    exact aeff_local (fun x hx' => (hx x hx').1) (fun x hx' => (hx x hx').2) he
end

section
variable {P : Program} {C : Ctx} {β : Key → Blk} {σ : St} {a : Act} {w : World} {cl : Callee} {ops : Array Oper} {gs : List GOp} {ks : List Key}

/-- Operations in the order of their text, each call by a callee of its own. -/
inductive RunR (P : Program) : List GOp → St → St → Prop
  | nil (σ : St) : RunR P [] σ σ
  | cons {cl : Callee} {o : GOp} {os : List GOp} {σ σ1 σ' : St} (hS : Sound P cl) (h : step cl false σ o = some σ1) (h2 : RunR P os σ1 σ') : RunR P (o :: os) σ σ'

theorem range_filter_ge (n : Nat) : ∀ m, ((List.range m).filter fun i => decide (n ≤ i)).length = m - n
  | 0 => by simp
  | m + 1 => by
    rw [List.range_succ, List.filter_append, List.length_append, range_filter_ge n m]
    by_cases h : n ≤ m
    · simp [h]; omega
    · simp [h]; omega

/-- Operations behind the drawn ones, each behind all ahead of it. -/
def tailOK (ops : List Oper) (n : Nat) : Bool := (List.range ops.length).all fun j => 
  (match ops[j]? with | some o => o.after.toList.all (fun e => !Region.binds .any e || decide (e.on < j)) | none => true) && (decide (j < n) || (List.range j).all fun i => ((masks [] ops).getD j 0).testBit i)

theorem tailOK_spec {ops : List Oper} {n : Nat} (h : tailOK ops n = true) {j : Nat} {o : Oper} (ho : ops[j]? = some o) : (∀ e ∈ o.after, Region.binds .any e = true → e.on < j) ∧ (n ≤ j → ∀ i, i < j → Reach ops j i) := by
  have hlt := (List.getElem?_eq_some_iff.1 ho).1
  have := List.all_eq_true.1 h j (List.mem_range.2 hlt)
  rw [ho] at this
  simp only [Bool.or_eq_true, decide_eq_true_eq, Bool.and_eq_true, List.all_eq_true, Bool.not_eq_true', List.mem_range] at this
  obtain ⟨h1, h2⟩ := this
  refine ⟨fun e he hb => ?_, fun hj i hi => ?_⟩
  · rcases h1 e (by simpa using he) with q | q
    · rw [hb] at q; cases q
    · exact q
  · rcases h2 with q | q
    · omega
    · exact masks_spec ops [] [] rfl rfl (fun j i hb => by simp at hb) j i (q i hi)

theorem reach_listedL {ops : List Oper} {L : Nat → Prop} (hcl : ∀ i o e, L i → ops[i]? = some o → e ∈ o.after → Region.binds .any e = true → L e.on) {j i : Nat} (hR : Reach ops j i) :
    (∀ o e, ops[j]? = some o → e ∈ o.after → Region.binds .any e = true → L e.on) → L i := by
  induction hR with
  | edge j o e ho he hb => intro h; exact h o e ho he hb
  | far j i o e ho he hb _ ih => intro h; exact ih (fun o' e' ho' he' hb' => hcl _ o' e' (h o e ho he hb) ho' he' hb')

theorem sound_tail {Q : Exit → Act → World → Prop} {n0 : Nat} (ht : tailOK ops.toList n0 = true) {l2 : List GOp} {σ σ2 : St} (hr : RunR P l2 σ σ2) : ∀ (n fuel : Nat) (listed : Array Bool) (a : Act) (w : World) (β : Key → Blk), n0 ≤ n → listed.size = ops.size → (∀ i, listed.getD i false = true ↔ i < n) →
    ops.size ≤ n + fuel → all2 (agreeG P C.nt ops) (ops.toList.drop n) l2 = true → RR C β σ a w → (∀ β' a' w', RR C β' σ2 a' w' → Q .normal a' w') → wpAny P .any ops Q fuel listed a w := by
  induction hr with
  | nil σ =>
    intro n fuel listed a w β hn hsz hl hf hag h hQ
    have hd : ops.toList.drop n = [] := by
      cases hd : ops.toList.drop n with
      | nil => rfl
      | cons o r => rw [hd] at hag; simp [all2] at hag
    have hge : ops.size ≤ n := by simpa using List.drop_eq_nil_iff.1 hd
    have no : ∀ j, j ∈ Region.ready .any ops listed → False := by
      intro j hj
      obtain ⟨q1, o, q2, _⟩ := mem_ready.1 hj
      have hlt := (Array.getElem?_eq_some_iff.1 q2).1
      have e : listed.getD j true = listed.getD j false := by simp [Array.getD, hsz, hlt]
      rw [e, (hl j).2 (by omega)] at q1; cases q1
    cases fuel with
    | zero => exact ⟨List.eq_nil_iff_forall_not_mem.2 (fun j hj => no j hj), hQ _ _ _ h⟩
    | succ f => exact ⟨fun _ => hQ _ _ _ h, fun j hj => (no j hj).elim⟩
  | @cons cl g os σ σ1 σ' hS hs _ ih =>
    intro n fuel listed a w β hn hsz hl hf hag h hQ
    cases hd : ops.toList.drop n with
    | nil => rw [hd] at hag; simp [all2] at hag
    | cons o rest =>
      rw [hd] at hag
      simp only [all2, Bool.and_eq_true] at hag
      have hlt : n < ops.size := by
        have := congrArg List.length hd
        simp at this; omega
      have ho : ops.toList[n]? = some o := by
        have := List.getElem?_drop (xs := ops.toList) (i := n) (j := 0)
        rw [hd] at this; simpa using this.symm
      have hrest : ops.toList.drop (n + 1) = rest := by rw [← List.drop_drop, hd]; rfl
      have hgd : ∀ {j : Nat}, j < ops.size → listed.getD j true = listed.getD j false := fun hlt => by simp [Array.getD, hsz, hlt]
      cases fuel with
      | zero => omega
      | succ f =>
        have hnr : n ∈ Region.ready .any ops listed := by
          refine mem_ready.2 ⟨?_, o, by rw [← Array.getElem?_toList]; exact ho, fun e he hb => (hl _).2 ((tailOK_spec ht ho).1 e he hb)⟩
          rw [hgd hlt]
          cases hc : listed.getD n false with
          | false => rfl
          | true => have := (hl n).1 hc; omega
        refine ⟨(fun hnil => by rw [hnil] at hnr; cases hnr), fun j hj => ?_⟩
        obtain ⟨hun, o', ho', hafter⟩ := mem_ready.1 hj
        have hlt' := (Array.getElem?_eq_some_iff.1 ho').1
        rw [hgd hlt'] at hun
        have hge : n ≤ j := by
          by_cases hc : n ≤ j
          · exact hc
          · rw [(hl j).2 (by omega)] at hun; cases hun
        have hje : j = n := by
          by_cases hc : j = n
          · exact hc
          · exfalso
            have ho2 : ops.toList[j]? = some o' := by rw [Array.getElem?_toList]; exact ho'
            have hR := (tailOK_spec ht ho2).2 (by omega) n (by omega)
            have := reach_listedL (L := fun i => i < n) (fun i o3 e hi ho3 he hb => ?_) hR (fun o3 e ho3 he hb => by
              rw [ho2] at ho3; cases ho3
              exact (hl _).1 (hafter e he hb))
            · omega
            · have q := (tailOK_spec ht ho3).1 e he hb
              have hi : i < n := hi
              show e.on < n
              omega
        subst hje
        rw [← Array.getElem?_toList, ho] at ho'
        cases ho'
        refine guarded_wpOp (by rw [← Array.getElem?_toList]; exact ho) ?_
        refine guardedS hS h hag.1 hs (fun β' a' w' h' => ?_) Q
        refine ih (j + 1) f _ a' w' β' (by omega) (by simpa using hsz) (fun i => ?_) (by omega) (by rw [hrest]; exact hag.2) h' hQ
        rw [getD_set]
        by_cases e : j = i
        · subst e; simp [hsz, hlt]
        · rw [if_neg (fun h => e h.1), hl i]; omega

theorem all2_append {α β : Type} {f : α → β → Bool} : ∀ {l : List α} {a b : List β}, all2 f l (a ++ b) = true → all2 f (l.take a.length) a = true ∧ all2 f (l.drop a.length) b = true
  | l, [], b, h => by simpa [all2] using h
  | [], y :: a, b, h => by simp [all2] at h
  | x :: l, y :: a, b, h => by
    simp only [List.cons_append, all2, Bool.and_eq_true] at h
    obtain ⟨h1, h2⟩ := all2_append h.2
    simp only [List.length_cons, List.take_succ_cons, List.drop_succ_cons, all2, Bool.and_eq_true]
    exact ⟨⟨h.1, h1⟩, h2⟩

theorem sound_drawZ (hm : P.follows .mixedOrders = true) (hS : Sound P cl) {Q : Exit → Act → World → Prop} {gs2 : List GOp} (hck : drawOK (ops.toList.take gs.length) gs ks = true) (htl : tailOK ops.toList gs.length = true) (hz : zStat gs = true)
    (hI : ∀ g ∈ gs, ∀ f sz by' x i y, g.op = .ins f sz by' x i y → InsC P f sz by') (hag2 : all2 (agreeG P C.nt ops) ops.toList (gs.map GOp.plain ++ gs2) = true) {σ' σ2 : St} (h : RR C β σ a w)
    (hr : runOps cl true gs (σ.killAll ks) = some σ') (hzo : zOK σ' gs = true) (hr2 : RunR P gs2 (σ'.killAll (zkeys σ' gs)) σ2) (hQ : ∀ β' a' w', RR C β' σ2 a' w' → Q .normal a' w') : wpAny P .any ops Q ops.size (Array.replicate ops.size false) a { w with drawn := w.drawn + 1 } := by
  have hD := drawOK_spec hck
  obtain ⟨S, e1, e2, hR⟩ := runs_of hr
  have h0 : ∀ k ∈ ks, (S 0).look k = none := fun k hk => by rw [e1]; exact look_killAll _ _ _ hk
  obtain ⟨hag, hag3⟩ := all2_append hag2
  have hle : gs.length ≤ ops.size := by
    have := hD.len
    simp at this; omega
  rw [List.length_map] at hag hag3
  have hop : ∀ {j : Nat} {o : Oper}, ops[j]? = some o → ops.toList[j]? = some o := fun h => by rw [Array.getElem?_toList]; exact h
  have hpre : ∀ {j : Nat} {o : Oper}, ops[j]? = some o → j < gs.length → (ops.toList.take gs.length)[j]? = some o := fun h hj => by rw [List.getElem?_take, if_pos hj]; exact hop h
  have hpre' : ∀ {j : Nat} {o : Oper}, (ops.toList.take gs.length)[j]? = some o → ops.toList[j]? = some o ∧ j < gs.length := fun {j o} h => by
    rw [List.getElem?_take] at h
    split at h
    · rename_i hj; exact ⟨h, hj⟩
    · cases h
  have hnB : ∀ (i : Nat) (g : GOp), gs[i]? = some g → g.op.isB = false := fun i g hg => (zStat_spec hz hg).1
  have hF : Seg cl gs S 0 (fun i => i < gs.length) σ' := by
    have := Seg.text (cl := cl) hD hR 0 gs.length (Nat.zero_le _) (Nat.le_refl _) (fun i g _ _ q3 => hnB i g q3)
    rwa [e2] at this
  have main : ∀ (fuel : Nat) (listed : Array Bool) (a : Act) (w : World) (β : Key → Blk) (σ : St) (Z : List Key), listed.size = ops.size → ((List.range ops.size).filter fun i => !listed.getD i false).length ≤ fuel →
      (∀ i o e, listed.getD i false = true → ops.toList[i]? = some o → e ∈ o.after → Region.binds .any e = true → listed.getD e.on false = true) → (∀ i, gs.length ≤ i → listed.getD i false = false) →
      Seg cl gs S 0 (fun i => listed.getD i false = true) σ → (∀ k, k ∈ Z ↔ ∃ i g, listed.getD i false = true ∧ gs[i]? = some g ∧ k ∈ zkey σ' g) → (∀ k ∈ Z, ∃ o, σ.look k = some o) → RR C β (σ.killAll Z) a w → wpAny P .any ops Q fuel listed a w := by
    intro fuel
    have fin : ∀ (fuel : Nat) (listed : Array Bool) (a : Act) (w : World) (β : Key → Blk) (σ : St) (Z : List Key), listed.size = ops.size → ((List.range ops.size).filter fun i => !listed.getD i false).length ≤ fuel → (∀ i, gs.length ≤ i → listed.getD i false = false) → (∀ i, i < gs.length → listed.getD i false = true) → Seg cl gs S 0 (fun i => listed.getD i false = true) σ →
        (∀ k, k ∈ Z ↔ ∃ i g, listed.getD i false = true ∧ gs[i]? = some g ∧ k ∈ zkey σ' g) → RR C β (σ.killAll Z) a w → wpAny P .any ops Q fuel listed a w := by
      intro fuel listed a w β σ Z hsz hcnt hno hall hseg hZ hr
      obtain ⟨q1, q2⟩ := Seg.same hR hseg hF (fun i _ q2 => ⟨fun _ => q2, fun _ => hall i (by omega)⟩) (fun i g _ _ q3 => hnB i g q3)
      have hZ' : ∀ k, k ∈ zkeys σ' gs ↔ k ∈ Z := by
        intro k
        rw [hZ, zkeys, List.mem_flatMap]
        constructor
        · rintro ⟨g, hg, hk⟩
          obtain ⟨i, hi⟩ := List.mem_iff_getElem?.1 hg
          exact ⟨i, g, hall i (List.getElem?_eq_some_iff.1 hi).1, hi, hk⟩
        · rintro ⟨i, g, _, hg, hk⟩
          exact ⟨g, List.mem_of_getElem? hg, hk⟩
      have hl : ∀ i, listed.getD i false = true ↔ i < gs.length := fun i => by
        constructor
        · intro h1
          by_cases hc : i < gs.length
          · exact hc
          · rw [hno i (by omega)] at h1; cases h1
        · exact hall i
      have hcnt2 : ops.size ≤ gs.length + fuel := by
        have e : ((List.range ops.size).filter fun i => !listed.getD i false) = (List.range ops.size).filter fun i => decide (gs.length ≤ i) := by
          refine List.filter_congr (fun i _ => ?_)
          by_cases hc : i < gs.length
          · rw [hall i hc]; simp; omega
          · rw [hno i (by omega)]; simp; omega
        rw [e] at hcnt
        have := range_filter_ge gs.length ops.size
        omega
      refine sound_tail (C := C) htl hr2 gs.length fuel listed a w β (Nat.le_refl _) hsz hl hcnt2 hag3 (hr.congr (fun t => ?_) (fun k => ?_)) hQ
      · rw [get_killAll, get_killAll, q1, SV.killZ_congr hZ']
      · rw [look_killAllZ, look_killAllZ, q2]
        by_cases e : k ∈ Z
        · rw [if_pos e, if_pos ((hZ' k).2 e)]
        · rw [if_neg e, if_neg (fun e' => e ((hZ' k).1 e'))]
          cases σ.look k with
          | none => rfl
          | some o => simp [HObj.killZ_congr hZ']
    induction fuel with
    | zero =>
      intro listed a w β σ Z hsz hcnt hcl hno hseg hZ hZ2 hr
      have hall : ∀ i, i < ops.size → listed.getD i false = true := by
        intro i hi
        have h1 := List.eq_nil_of_length_eq_zero (Nat.le_zero.1 hcnt)
        have h2 := (List.filter_eq_nil_iff.1 h1) i (List.mem_range.2 hi)
        simpa using h2
      exact fin 0 listed a w β σ Z hsz hcnt hno (fun i hi => hall i (by omega)) hseg hZ hr
    | succ fuel ih =>
      intro listed a w β σ Z hsz hcnt hcl hno hseg hZ hZ2 hr
      have hgd : ∀ {j : Nat}, j < ops.size → listed.getD j true = listed.getD j false := fun hlt => by simp [Array.getD, hsz, hlt]
      by_cases hdone : ∀ i, i < gs.length → listed.getD i false = true
      · exact fin _ listed a w β σ Z hsz hcnt hno hdone hseg hZ hr
      refine ⟨fun hnil => ?_, fun j hj => ?_⟩
      · refine absurd ?_ hdone
        intro i
        induction i using Nat.strongRecOn with
        | _ i ih2 =>
          intro hi
          cases hc : listed.getD i false with
          | true => rfl
          | false =>
            have hi' : i < ops.size := by omega
            have : i ∈ Region.ready .any ops listed := by
              refine mem_ready.2 ⟨by rw [hgd hi']; exact hc, ops[i], Array.getElem?_eq_getElem hi', fun e he hb => ?_⟩
              have := hD.back i _ (hpre (Array.getElem?_eq_getElem hi') hi) e he hb
              exact ih2 _ this (by omega)
            rw [hnil] at this
            cases this
      · obtain ⟨hun, o, ho, hafter⟩ := mem_ready.1 hj
        have hlt := (Array.getElem?_eq_some_iff.1 ho).1
        rw [hgd hlt] at hun
        have hjl : j < gs.length := by
          by_cases hc : j < gs.length
          · exact hc
          · refine absurd (fun i hi => ?_) hdone
            exact reach_listedL (L := fun i => listed.getD i false = true) hcl ((tailOK_spec htl (hop ho)).2 (by omega) i (by omega)) (fun o' e ho' he hb => by
              rw [hop ho] at ho'; cases ho'; exact hafter e he hb)
        obtain ⟨g, hg⟩ : ∃ g, gs[j]? = some g := ⟨gs[j]'hjl, List.getElem?_eq_getElem hjl⟩
        have hclp : ∀ i o e, listed.getD i false = true → (ops.toList.take gs.length)[i]? = some o → e ∈ o.after → Region.binds .any e = true → listed.getD e.on false = true := fun i o e h1 h2 => hcl i o e h1 (hpre' h2).1
        have hreach : ∀ i, Reach (ops.toList.take gs.length) j i → listed.getD i false = true := fun i hR' => reach_listedL (L := fun i => listed.getD i false = true) hclp hR' (fun o' e ho' he hb => by
          rw [hpre ho hjl] at ho'; cases ho'; exact hafter e he hb)
        have hG : agreeG P C.nt ops o g.plain = true := all2G hag j o _ (hpre ho hjl) (by rw [List.getElem?_map, hg]; rfl)
        have hno' : ∀ i, gs.length ≤ i → (listed.setIfInBounds j true).getD i false = false := fun i hi => by
          rw [getD_set, if_neg (fun h => by omega)]; exact hno i hi
        have hset : ∀ i, (listed.setIfInBounds j true).getD i false = true ↔ listed.getD i false = true ∨ i = j := by
          intro i
          rw [getD_set]
          by_cases e : j = i
          · subst e; simp [hsz, hlt]
          · rw [if_neg (fun h => e h.1)]
            constructor
            · exact .inl
            · rintro (h | h)
              · exact h
              · exact absurd h.symm e
        have hcnt' : ((List.range ops.size).filter fun i => !(listed.setIfInBounds j true).getD i false).length ≤ fuel := by
          have := filter_less (p := fun i => !listed.getD i false) (q := fun i => !(listed.setIfInBounds j true).getD i false) (List.range ops.size) j (List.mem_range.2 hlt) (by simp [hun]) (by simp [(hset j).2 (.inr rfl)])
            (fun i hi => by
              simp only [Bool.not_eq_true'] at hi ⊢
              cases hc : listed.getD i false with
              | false => rfl
              | true => rw [(hset i).2 (.inl hc)] at hi; cases hi)
          omega
        have hcl' : ∀ i o e, (listed.setIfInBounds j true).getD i false = true → ops.toList[i]? = some o → e ∈ o.after → Region.binds .any e = true → (listed.setIfInBounds j true).getD e.on false = true := by
          intro i o' e hi ho' he hb
          rcases (hset i).1 hi with hi | rfl
          · exact (hset _).2 (.inl (hcl i o' e hi ho' he hb))
          · rw [hop ho] at ho'; cases ho'
            exact (hset _).2 (.inl (hafter e he hb))
        obtain ⟨e, he, hSj⟩ := effOf_step (hR.at' j _ hg) (hnB j g hg)
        -- what is given up: by whom
        have hwho : ∀ k ∈ Z, ∃ i g' x, listed.getD i false = true ∧ gs[i]? = some g' ∧ g'.op.insX = some x ∧ σ'.get x = .own k ∧ (∀ t, t ≠ x → (σ'.get t).names k = false) ∧ ∀ k' o, σ'.look k' = some o → o.names k = false := by
          intro k hk
          obtain ⟨i, g', q1, q2, q3⟩ := (hZ k).1 hk
          obtain ⟨x, hx⟩ := zkey_ins q3
          obtain ⟨q4, q5, q6⟩ := zOK_spec hzo q2 hx q3
          exact ⟨i, g', x, q1, q2, hx, q4, q5, q6⟩
        have hnames : ∀ t ∈ g.looks, ∀ k ∈ Z, (σ.get t).names k = false := by
          intro t ht k hk
          obtain ⟨i, g', x, q1, q2, q3, q4, q5, q6⟩ := hwho k hk
          rw [Seg.get_end hD hR hnB hseg hF hg hreach ht]
          refine q5 t (fun e' => ?_)
          subst e'
          have hij : j ≠ i := fun e' => by subst e'; rw [hun] at q1; cases q1
          exact ((zStat_spec hz q2).2 t q3).2 j g hij hg ht
        have hget : ∀ t ∈ g.looks, (σ.killAll Z).get t = σ.get t := fun t ht => by
          rw [get_killAll]; exact SV.killZ_none (hnames t ht)
        have heσ : effOf cl σ g = some e := by
          refine hseg.eff0 (P := P) hD hR h0 (fun t ht k hn => ?_) (Nat.zero_le _) hg (fun i g' _ _ q3 => hnB i g' q3) (fun i g' _ _ q3 => hnB i g' q3) hreach he
          rw [← hget t ht] at hn
          obtain ⟨o', ho'⟩ := (hr.slots t).there hn
          obtain ⟨o2, ho2⟩ := killAll_some _ ho'
          exact ⟨o2, ho2⟩
        have hobj : ∀ k' o', σ.look k' = some o' → o'.killZ Z = o' := fun k' o' ho' => HObj.killZ_none (fun k hk => by
          obtain ⟨i, g', x, q1, q2, q3, q4, q5, q6⟩ := hwho k hk
          exact q6 k' o' (Seg.look_end hD hR h0 hseg hF ho'))
        have heτ : effOf cl (σ.killAll Z) g = some e := by
          refine effOf_local hget (fun t ht k' o' hn ho' => ?_) heσ
          rw [look_killAllZ, if_neg (fun hk => by rw [hnames t ht k' hk] at hn; cases hn), ho']
          simp [hobj k' o' ho']
        have hnew : ∀ k ∈ g.op.keys (g.d.getD 0), σ.look k = none := by
          intro k hk
          cases hl : σ.look k with
          | none => rfl
          | some o2 =>
            exfalso
            obtain ⟨_, d, hd⟩ := hD.keys j _ hg k hk
            obtain ⟨n, hn⟩ := keys_loc' hk
            rw [hd] at hn
            have := hseg.l1 k (fun i g' e' q1 q2 q3 q4 => by
              cases hi : lookH e'.ins k with
              | none => rfl
              | some o3 =>
                obtain ⟨_, d', n', hd', hk'⟩ := insKey hD.toDrawBase q3 q4 hi
                rw [hn] at hk'
                injection hk' with e3
                have e3 : d = d' := e3
                subst e3
                have := hD.dist i j g' _ d q3 hg hd' hd
                subst this
                rw [hun] at q2; cases q2)
            rw [this, fresh hD.toDrawBase hR h0 hg hk 0 (Nat.zero_le _)] at hl
            cases hl
        have hnewτ : ∀ k ∈ g.op.keys (g.d.getD 0), (σ.killAll Z).look k = none := fun k hk => look_killAll_none _ _ _ (hnew k hk)
        have hinsF : ∀ k' o', lookH e.ins k' = some o' → σ'.look k' = some o' := fun k' o' hi => hF.l2 j g e k' o' (Nat.zero_le _) (by omega) hg he hi
        have hevF : ∀ d, g.d = some d → σ'.get d = e.v := fun d hd => hF.g2 j g e d (Nat.zero_le _) (by omega) hg he hd
        have hseg' := hseg.more hD (Nat.zero_le _) hg he (by rw [hun]; simp) hset
        have hlk' : ∀ k', ((σ.insAll e.ins).put g.d e.v).look k' = (lookH e.ins k').or (σ.look k') := fun k' => by
          rw [St.look_put]; unfold St.insAll St.look; simp only [lookH_append]
        -- what names the new value, and the new rows, have
        have hnov : ∀ d, g.d = some d → ∀ k ∈ Z, e.v.names k = false := by
          intro d hd k hk
          obtain ⟨i, g', x, q1, q2, q3, q4, q5, q6⟩ := hwho k hk
          rw [← hevF d hd]
          refine q5 d (fun e' => ?_)
          subst e'
          have q7 := (hD.looks i g' q2 d (insX_look q3) j g hg hd).2
          have := reach_listedL (L := fun i => listed.getD i false = true) hclp q7 (fun o' e ho' he hb => hclp i o' e q1 ho' he hb)
          rw [hun] at this; cases this
        have hnok : ∀ k' o', lookH e.ins k' = some o' → k' ∉ Z := fun k' o' hi hk => by
          obtain ⟨o2, ho2⟩ := hZ2 k' hk
          obtain ⟨hkk, _⟩ := insKey hD.toDrawBase hg he hi
          rw [hnew k' hkk] at ho2; cases ho2
        have hnoo : ∀ k' o', lookH e.ins k' = some o' → o'.killZ Z = o' := fun k' o' hi => HObj.killZ_none (fun k hk => by
          obtain ⟨i, g', x, q1, q2, q3, q4, q5, q6⟩ := hwho k hk
          exact q6 k' o' (hinsF k' o' hi))
        have hZ2' : ∀ k ∈ Z, ∃ o, ((σ.insAll e.ins).put g.d e.v).look k = some o := fun k hk => by
          obtain ⟨o2, ho2⟩ := hZ2 k hk
          rw [hlk', ho2]
          cases lookH e.ins k <;> simp
        refine guarded_wpOp ho ?_
        cases hx : g.op.insX with
        | none =>
          have hpl : g.plain = g := by
            unfold GOp.plain
            split
            · rename_i hop'; rw [hop'] at hx; cases hx
            · rfl
          rw [hpl] at hG
          refine guardedA hS hr hG heτ hnewτ (fun β' a' w' h' => ?_) Q
          refine ih _ a' w' β' _ Z (by simpa using hsz) hcnt' hcl' hno' hseg' (fun k => ?_) hZ2' (h'.congr (fun t => ?_) (fun k' => ?_))
          · rw [hZ k]
            constructor
            · rintro ⟨i, g', q1, q2, q3⟩; exact ⟨i, g', (hset i).2 (.inl q1), q2, q3⟩
            · rintro ⟨i, g', q1, q2, q3⟩
              rcases (hset i).1 q1 with q1 | rfl
              · exact ⟨i, g', q1, q2, q3⟩
              · rw [hg] at q2; cases q2
                obtain ⟨x, hx'⟩ := zkey_ins q3
                rw [hx] at hx'; cases hx'
          · rw [get_killAll, St.get_put, St.get_put]
            by_cases ed : g.d = some t
            · rw [if_pos ed, if_pos ed]; exact SV.killZ_none (hnov t ed)
            · rw [if_neg ed, if_neg ed]
              show (σ.get t).killZ Z = (σ.killAll Z).get t
              rw [get_killAll]
          · rw [look_killAllZ, hlk']
            have : (((σ.killAll Z).insAll e.ins).put g.d e.v).look k' = (lookH e.ins k').or ((σ.killAll Z).look k') := by
              rw [St.look_put]; unfold St.insAll St.look; simp only [lookH_append]
            rw [this, look_killAllZ]
            cases hi : lookH e.ins k' with
            | none => simp
            | some o' => simp [hnok k' o' hi, hnoo k' o' hi]
        | some x =>
          obtain ⟨hgn, _⟩ := (zStat_spec hz hg).2 x hx
          obtain ⟨f, sz, by', i', y', hop'⟩ : ∃ f sz by' i' y', g.op = .ins f sz by' x i' y' := by
            unfold AOp.insX at hx
            split at hx
            · rename_i f sz by' y i z hop'
              cases hx
              exact ⟨f, sz, by', i, z, hop'⟩
            · cases hx
          have haτ : aeff cl (σ.killAll Z) (g.d.getD 0) g.op = some e := by
            unfold effOf at heτ
            rw [hgn] at heτ
            exact heτ
          refine guardedIns (hI g (List.mem_of_getElem? hg) _ _ _ _ _ _ hop') hop' hgn hr hG haτ (hnewτ _ (by rw [hop']; simp [AOp.keys])) (fun β' a' w' k hk h' => ?_) Q
          have hxl : x ∈ g.looks := insX_look hx
          have hkσ : σ.get x = .own k := by rw [← hget x hxl]; exact hk
          have hkF : σ'.get x = .own k := by rw [← Seg.get_end hD hR hnB hseg hF hg hreach hxl]; exact hkσ
          have hzk : zkey σ' g = [k] := by unfold zkey; rw [hx]; simp only [hkF]
          obtain ⟨_, z5, z6⟩ := zOK_spec hzo hg hx (k := k) (by rw [hzk]; simp)
          obtain ⟨ok, hok⟩ : ∃ o, σ.look k = some o := by
            obtain ⟨o', ho'⟩ := (hr.slots x).there (k := k) (by rw [hk]; simp [SV.names])
            exact killAll_some _ ho'
          have hall : ∀ k2 ∈ Z ++ [k], (∃ o, ((σ.insAll e.ins).put g.d e.v).look k2 = some o) := by
            intro k2 hk2
            rcases List.mem_append.1 hk2 with hk2 | hk2
            · exact hZ2' k2 hk2
            · simp only [List.mem_singleton] at hk2; subst hk2
              rw [hlk', hok]
              cases lookH e.ins k2 <;> simp
          refine ih _ a' w' β' _ (Z ++ [k]) (by simpa using hsz) hcnt' hcl' hno' hseg' (fun k2 => ?_) hall (h'.congr (fun t => ?_) (fun k' => ?_))
          · rw [List.mem_append, hZ k2]
            constructor
            · rintro (⟨i, g', q1, q2, q3⟩ | hk2)
              · exact ⟨i, g', (hset i).2 (.inl q1), q2, q3⟩
              · simp only [List.mem_singleton] at hk2; subst hk2
                exact ⟨j, g, (hset j).2 (.inr rfl), hg, by rw [hzk]; simp⟩
            · rintro ⟨i, g', q1, q2, q3⟩
              rcases (hset i).1 q1 with q1 | rfl
              · exact .inl ⟨i, g', q1, q2, q3⟩
              · rw [hg] at q2; cases q2
                rw [hzk] at q3; exact .inr q3
          · rw [get_killAll, St.get_put, St.get_put]
            by_cases ed : g.d = some t
            · rw [if_pos ed, if_pos ed]
              refine SV.killZ_none (fun k2 hk2 => ?_)
              rcases List.mem_append.1 hk2 with hk2 | hk2
              · exact hnov t ed k2 hk2
              · simp only [List.mem_singleton] at hk2; subst hk2
                rw [← hevF t ed]
                refine z5 t (fun e' => ?_)
                subst e'
                have := (hD.looks j g hg t hxl j g hg ed).1
                omega
            · rw [if_neg ed, if_neg ed, St.get_insAll, St.get_insAll, St.get_kill, get_killAll, SV.killZ_snoc]
          · rw [look_killAllZ, hlk']
            have : ((((σ.killAll Z).kill k).insAll e.ins).put g.d e.v).look k' = (lookH e.ins k').or (((σ.killAll Z).kill k).look k') := by
              rw [St.look_put]; unfold St.insAll St.look; simp only [lookH_append]
            rw [this, St.look_kill, look_killAllZ]
            cases hi : lookH e.ins k' with
            | none =>
              by_cases q1 : k' = k
              · subst q1; simp
              · by_cases q2 : k' ∈ Z
                · simp [q2]
                · simp only [Option.none_or, List.mem_append, List.mem_singleton, q1, q2, or_self, if_false]
                  cases σ.look k' with
                  | none => rfl
                  | some o' => simp [HObj.killZ_snoc]
            | some o' =>
              obtain ⟨hkk, _⟩ := insKey hD.toDrawBase hg he hi
              have q1 : k' ≠ k := fun e' => by subst e'; rw [hnew k' hkk] at hok; cases hok
              have q3 : o'.killZ (Z ++ [k]) = o' := by
                rw [← HObj.killZ_snoc, hnoo k' o' hi]
                cases o' with
                | box cs =>
                  have := z6 k' _ (hinsF k' _ hi)
                  simp only [HObj.kill]; congr 1
                  have e4 : cs.map (SV.kill k) = cs.map (fun v => v) := List.map_congr_left (fun v hv => by
                    have := namesL_mem this hv
                    unfold SV.kill; rw [this]; rfl)
                  rw [e4]; simp
                | row _ _ => rfl
                | map _ _ => rfl
              simp [hnok k' o' hi, q1, q3]
  have hk := (h.killAll ks).heap (w' := { w with drawn := w.drawn + 1 }) rfl (Quiet.drawn w _)
  have hrep : ∀ i, (Array.replicate ops.size false).getD i false = false := fun i => by simp only [Array.getD_eq_getD_getElem?, Array.getElem?_replicate]; split <;> rfl
  refine main ops.size _ a _ β _ [] (by simp) ?_ (fun i o e hi => by rw [hrep] at hi; cases hi) (fun i _ => hrep i) ?_ (fun k => ?_) (fun k hk => by simp at hk) hk
  · refine Nat.le_trans (List.length_filter_le _ _) (by simp)
  · rw [← e1]
    exact Seg.empty 0 (fun i _ _ q => by rw [hrep] at q; cases q)
  · simp only [List.not_mem_nil, false_iff]
    rintro ⟨i, g, q1, _⟩
    rw [hrep] at q1; cases q1

end
end Go.Av
