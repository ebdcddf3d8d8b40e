/- Regions whose order is drawn, with operations that no order binds to a store: every order. -/
import Derived.Test.YtkcilagjhieapaaBvQ
set_option linter.unusedVariables false
set_option linter.unusedSimpArgs false
namespace Go.Av
section
variable {cl : Callee} {ops : List Oper} {gs : List GOp} {ks : List Key} {S : Nat → St}

/-- A tied operation that is ready stands between the same stores as in the text. -/
theorem Seg2.between (hD : DrawOK2 ops gs ks) {L : Nat → Prop} {m : Nat} {σ : St} (h : Seg2 cl gs S L m σ) {j : Nat} {g : GOp} (hg : gs[j]? = some g) (hreach : ∀ i, Reach ops j i → L i) (hback : ∀ i, L i → Reach ops i j → L j) (hLj : ¬ L j) (ht : g.op.tied (g.d.getD 0) = true) :
    ∀ i g', gs[i]? = some g' → g'.op.isStore = true → (i < m ↔ i < j) := by
  intro i g' hg' hs
  obtain ⟨q1, q2⟩ := hD.ord i g' hg' hs j g hg ht
  have hL := h.st i g' hg' hs
  constructor
  · intro hi
    have hl := hL.2 hi
    by_cases h1 : i < j
    · exact h1
    · by_cases h2 : i = j
      · subst h2; exact absurd hl hLj
      · exact absurd (hback i hl (q1 (by omega))) hLj
  · intro hi
    exact hL.1 (hreach i (q2 hi))

theorem Seg2.eff (hD : DrawOK2 ops gs ks) (hR : Runs cl gs S) (h0 : ∀ k ∈ ks, (S 0).look k = none) {P : Program} {C : Ctx} {β : Key → Blk} {a : Act} {w : World} {L : Nat → Prop} {m : Nat} {σ : St} (h : Seg2 cl gs S L m σ) (hm : m ≤ gs.length) (hr : RR C β σ a w)
    {j : Nat} {g : GOp} {e : Eff} (hg : gs[j]? = some g) (hreach : ∀ i, Reach ops j i → L i) (hback : ∀ i, L i → Reach ops i j → L j) (hLj : ¬ L j) (he : effOf cl (S j) g = some e) : effOf cl σ g = some e := by
  have hlt := (List.getElem?_eq_some_iff.1 hg).1
  have hget : ∀ t ∈ g.looks, σ.get t = (S j).get t := fun t ht => h.get hD hR hg hreach ht
  have hthere : ∀ t ∈ g.looks, ∀ k, ((S j).get t).names k = true → ∃ o, σ.look k = some o := fun t ht k hn => by
    have hs := hr.slots t
    rw [hget t ht] at hs
    exact hs.there hn
  have hwants : σ.wants g.g = (S j).wants g.g := by
    cases hgg : g.g with
    | none => rfl
    | some p =>
      obtain ⟨t, b⟩ := p
      simp only [St.wants]
      rw [hget t (by simp [GOp.looks, hgg])]
  have mem : ∀ t, Opd.tmp t ∈ g.op.opds → t ∈ g.looks := fun t hx => by
    simp only [GOp.looks, List.mem_append]
    exact .inr (by simp only [AOp.tmps, List.mem_filterMap]; exact ⟨_, hx, rfl⟩)
  have hev : ∀ x ∈ g.op.opds, σ.ev x = (S j).ev x := fun x hx => by
    cases x with
    | tmp t => exact hget t (mem t hx)
    | cst p => rfl
    | nils => rfl
  unfold effOf at he ⊢
  rw [hwants]
  split at he
  · cases he
  · exact he
  · cases hrd : g.op.reads with
    | true =>
      have hb := h.between hD hg hreach hback hLj (by simp [AOp.tied, hrd])
      refine aeff_local hev (fun x hx k o hn hk => ?_) he
      cases x with
      | tmp t =>
        obtain ⟨o', ho'⟩ := hthere t (mem t hx) k hn
        rw [ho', h.exact hD hR h0 hm (by omega) hb ho' hk]
      | cst p => simp [St.ev, SV.names] at hn
      | nils => simp [St.ev, SV.names] at hn
    | false =>
      refine aeff_sim hrd hev (fun x hx k o hn hk => ?_) he
      cases x with
      | tmp t =>
        obtain ⟨o', ho'⟩ := hthere t (mem t hx) k hn
        exact ⟨o', ho', h.shape hD hR h0 (by omega) ho' hk⟩
      | cst p => simp [St.ev, SV.names] at hn
      | nils => simp [St.ev, SV.names] at hn

/-- One more, not a store. -/
theorem Seg2.moreA (hD : DrawOK2 ops gs ks) (hR : Runs cl gs S) (h0 : ∀ k ∈ ks, (S 0).look k = none) {L L' : Nat → Prop} {m : Nat} {σ : St} (h : Seg2 cl gs S L m σ) (hm : m ≤ gs.length) {j : Nat} {g : GOp} {e : Eff} (hg : gs[j]? = some g) (hreach : ∀ i, Reach ops j i → L i) (hback : ∀ i, L i → Reach ops i j → L j) (hLj : ¬ L j)
    (hns : g.op.isStore = false) (he : effOf cl (S j) g = some e) (hS : S (j + 1) = ((S j).insAll e.ins).put g.d e.v) (hL' : ∀ i, L' i ↔ L i ∨ i = j) : Seg2 cl gs S L' m ((σ.insAll e.ins).put g.d e.v) := by
  have hlt := (List.getElem?_eq_some_iff.1 hg).1
  have hkeys : ∀ {k o}, lookH e.ins k = some o → k ∈ g.op.keys (g.d.getD 0) := fun hl => (insKey hD.toDrawBase hg he hl).1
  have hnone : ∀ {k}, k ∉ g.op.keys (g.d.getD 0) → lookH e.ins k = none := fun hk => by
    cases hl : lookH e.ins _ with
    | none => rfl
    | some o => exact absurd (hkeys hl) hk
  have hnext : ∀ {k}, k ∈ g.op.keys (g.d.getD 0) → (S (j + 1)).look k = lookH e.ins k := fun hk => by
    rw [hS, look_ins, fresh hD.toDrawBase hR h0 hg hk j (Nat.le_refl _)]
    simp
  refine ⟨fun i g' hg' hs => ?_, fun t ht => ?_, fun i g' t hl hg' hd => ?_, fun k o hk => ?_, fun k o0 hk => ?_, fun i g' k o0 hl hg' hk ho => ?_, fun k o o' hk hk' => ?_, fun i g' k o hl hmi hg' hk ho => ?_⟩
  · rw [hL']
    constructor
    · rintro (h1 | rfl)
      · exact (h.st i g' hg' hs).1 h1
      · rw [hg] at hg'; cases hg'; rw [hns] at hs; cases hs
    · intro h1; exact .inl ((h.st i g' hg' hs).2 h1)
  · rw [get_ins, if_neg (ht j g ((hL' j).2 (.inr rfl)) hg)]
    exact h.g1 t (fun i g' hl hg' => ht i g' ((hL' i).2 (.inl hl)) hg')
  · rw [get_ins]
    rcases (hL' i).1 hl with hl | rfl
    · rw [if_neg (fun e1 => by have := hD.dist i j g' g t hg' hg hd e1; subst this; exact hLj hl)]
      exact h.g2 i g' t hl hg' hd
    · rw [hg] at hg'; cases hg'
      rw [if_pos hd, hS, get_ins, if_pos hd]
  · rw [look_ins] at hk
    cases hl : lookH e.ins k with
    | some o1 =>
      have := hkeys hl
      exact .inr ⟨j, g, o1, (hL' j).2 (.inr rfl), hg, this, by rw [hnext this, hl]⟩
    | none =>
      rw [hl] at hk
      rcases h.l0 k o (by simpa using hk) with hb | ⟨i, g', o1, p1, p2⟩
      · exact .inl hb
      · exact .inr ⟨i, g', o1, (hL' i).2 (.inl p1), p2⟩
  · have : lookH e.ins k = none := hnone (fun hm => by have := h0 k (hD.keys j g hg k hm).1; rw [hk] at this; cases this)
    obtain ⟨o, h1, h2⟩ := h.lS k o0 hk
    exact ⟨o, by rw [look_ins, this, h1]; rfl, h2⟩
  · rcases (hL' i).1 hl with hl | rfl
    · have : lookH e.ins k = none := hnone (fun hm => by have := keys_one hD.toDrawBase hg' hg hk hm; subst this; exact hLj hl)
      obtain ⟨o, h1, h2⟩ := h.lI i g' k o0 hl hg' hk ho
      exact ⟨o, by rw [look_ins, this, h1]; rfl, h2⟩
    · rw [hg] at hg'; cases hg'
      rw [hnext hk] at ho
      exact ⟨o0, by rw [look_ins, ho]; rfl, o0.sim_refl⟩
  · rw [look_ins] at hk
    cases hl : lookH e.ins k with
    | none => rw [hl] at hk; exact h.eq k o o' (by simpa using hk) hk'
    | some o1 =>
      rw [hl] at hk
      have hk : o1 = o := by simpa using hk
      subst hk
      have hkk := hkeys hl
      have ht : g.op.tied (g.d.getD 0) = true := by
        have : (g.op.keys (g.d.getD 0)).isEmpty = false := by
          cases hh : g.op.keys (g.d.getD 0) with
          | nil => rw [hh] at hkk; cases hkk
          | cons _ _ => rfl
        simp [AOp.tied, this]
      have hb := h.between hD hg hreach hback hLj ht
      by_cases hmj : m ≤ j
      · rw [fresh hD.toDrawBase hR h0 hg hkk m hmj] at hk'; cases hk'
      · have h1 : (S (j + 1)).look k = some o1 := by rw [hnext hkk, hl]
        obtain ⟨o2, s1, _, s3⟩ := S_look_far hD hR h0 h1 m (by omega) hm
        rw [hk'] at s1; cases s1
        refine (s3 (fun q g' a b c => ?_)).symm
        cases hs : g'.op.isStore with
        | false => rfl
        | true => have := (hb q g' c hs).1 b; omega
  · rcases (hL' i).1 hl with hl | rfl
    · have : lookH e.ins k = none := hnone (fun hm => by have := keys_one hD.toDrawBase hg' hg hk hm; subst this; exact hLj hl)
      rw [look_ins, this, h.new i g' k o hl hmi hg' hk ho]; rfl
    · rw [hg] at hg'; cases hg'
      rw [hnext hk] at ho
      rw [look_ins, ho]; rfl

/-- One more: a store (or its slot alone). -/
theorem Seg2.moreS (hD : DrawOK2 ops gs ks) (hR : Runs cl gs S) (h0 : ∀ k ∈ ks, (S 0).look k = none) {L L' : Nat → Prop} {m : Nat} {σ σ' : St} (h : Seg2 cl gs S L m σ) (hm : m ≤ gs.length) {j : Nat} {g : GOp} (hg : gs[j]? = some g) (hreach : ∀ i, Reach ops j i → L i) (hback : ∀ i, L i → Reach ops i j → L j) (hLj : ¬ L j)
    (hst : g.op.isStore = true) (hget : ∀ t, σ'.get t = if g.d = some t then .dead else σ.get t) (hgetS : ∀ t, (S (j + 1)).get t = if g.d = some t then .dead else (S j).get t)
    (hlk : ∀ k o, σ.look k = some o → ∃ o', σ'.look k = some o' ∧ o.sim o') (hlk' : ∀ k o', σ'.look k = some o' → ∃ o, σ.look k = some o) (hex : ∀ k o o', σ'.look k = some o → (S (j + 1)).look k = some o' → o = o')
    (hL' : ∀ i, L' i ↔ L i ∨ i = j) : Seg2 cl gs S L' (j + 1) σ' := by
  have hb := h.between hD hg hreach hback hLj (by simp [AOp.tied, hst])
  have hstj : ∀ i g', gs[i]? = some g' → g'.op.isStore = true → (L i ↔ i < j) := fun i g' hg' hs => (h.st i g' hg' hs).trans (hb i g' hg' hs)
  refine ⟨fun i g' hg' hs => ?_, fun t ht => ?_, fun i g' t hl hg' hd => ?_, fun k o hk => ?_, fun k o0 hk => ?_, fun i g' k o0 hl hg' hk ho => ?_, hex, fun i g' k o hl hmi hg' hk ho => ?_⟩
  · rw [hL', hstj i g' hg' hs]; omega
  · rw [hget, if_neg (ht j g ((hL' j).2 (.inr rfl)) hg)]
    exact h.g1 t (fun i g' hl hg' => ht i g' ((hL' i).2 (.inl hl)) hg')
  · rw [hget]
    rcases (hL' i).1 hl with hl | rfl
    · rw [if_neg (fun e1 => by have := hD.dist i j g' g t hg' hg hd e1; subst this; exact hLj hl)]
      exact h.g2 i g' t hl hg' hd
    · rw [hg] at hg'; cases hg'
      rw [if_pos hd, hgetS, if_pos hd]
  · obtain ⟨o1, h1⟩ := hlk' k o hk
    rcases h.l0 k o1 h1 with hb | ⟨i, g', o2, p1, p2⟩
    · exact .inl hb
    · exact .inr ⟨i, g', o2, (hL' i).2 (.inl p1), p2⟩
  · obtain ⟨o, h1, h2⟩ := h.lS k o0 hk
    obtain ⟨o', h3, h4⟩ := hlk k o h1
    exact ⟨o', h3, HObj.sim_trans h2 h4⟩
  · rcases (hL' i).1 hl with hl | rfl
    · obtain ⟨o, h1, h2⟩ := h.lI i g' k o0 hl hg' hk ho
      obtain ⟨o', h3, h4⟩ := hlk k o h1
      exact ⟨o', h3, HObj.sim_trans h2 h4⟩
    · rw [hg] at hg'; cases hg'
      cases hop : g.op <;> rw [hop] at hst hk <;> first | (cases hst; done) | (simp [AOp.keys] at hk; done)
  · rcases (hL' i).1 hl with hl | rfl
    · have ht : g'.op.tied (g'.d.getD 0) = true := by
        have : (g'.op.keys (g'.d.getD 0)).isEmpty = false := by
          cases hh : g'.op.keys (g'.d.getD 0) with
          | nil => rw [hh] at hk; cases hk
          | cons _ _ => rfl
        simp [AOp.tied, this]
      exact absurd (hback i hl ((hD.ord j g hg hst i g' hg' ht).2 (by omega))) hLj
    · omega

end
end Go.Av
