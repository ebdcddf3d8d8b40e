/- Regions whose order is drawn: the proof. -/
import Derived.Test.YtkcilagjhieapaaBvH
set_option linter.unusedVariables false
set_option linter.unusedSimpArgs false
namespace Go.Av

/-- The states of the text's order. -/
structure Runs (cl : Callee) (gs : List GOp) (S : Nat → St) : Prop where
  at' : ∀ i g, gs[i]? = some g → step cl true (S i) g = some (S (i + 1))

theorem runs_of {cl : Callee} : ∀ {gs : List GOp} {σ σ' : St}, runOps cl true gs σ = some σ' → ∃ S, S 0 = σ ∧ S gs.length = σ' ∧ Runs cl gs S
  | [], σ, σ', h => by
    simp only [runOps, Option.some.injEq] at h
    exact ⟨fun _ => σ, rfl, h, ⟨by simp⟩⟩
  | g :: gs, σ, σ', h => by
    simp only [runOps] at h
    split at h
    · rename_i σ1 h1
      obtain ⟨S, e1, e2, e3⟩ := runs_of h
      refine ⟨fun i => match i with | 0 => σ | i + 1 => S i, rfl, e2, ⟨fun i g' hg => ?_⟩⟩
      cases i with
      | zero => simp at hg; subst hg; simp only [e1]; exact h1
      | succ i => exact e3.at' i g' (by simpa using hg)
    · cases h

/-- Between two operations that change what was there, some have run. -/
structure Seg (cl : Callee) (gs : List GOp) (S : Nat → St) (m : Nat) (L : Nat → Prop) (σ : St) : Prop where
  g1 : ∀ t, (∀ i g, m ≤ i → L i → gs[i]? = some g → g.d ≠ some t) → σ.get t = (S m).get t
  g2 : ∀ i g e t, m ≤ i → L i → gs[i]? = some g → effOf cl (S i) g = some e → g.d = some t → σ.get t = e.v
  l1 : ∀ k, (∀ i g e, m ≤ i → L i → gs[i]? = some g → effOf cl (S i) g = some e → lookH e.ins k = none) → σ.look k = (S m).look k
  l2 : ∀ i g e k o, m ≤ i → L i → gs[i]? = some g → effOf cl (S i) g = some e → lookH e.ins k = some o → σ.look k = some o

section
variable {cl : Callee} {ops : List Oper} {gs : List GOp} {ks : List Key} {S : Nat → St}

theorem effOf_step {σ σ' : St} {g : GOp} (hs : step cl true σ g = some σ') (hB : g.op.isB = false) : ∃ e, effOf cl σ g = some e ∧ σ' = (σ.insAll e.ins).put g.d e.v := by
  unfold step at hs
  unfold effOf
  split at hs
  · cases hs
  · rename_i hw
    simp only [Option.some.injEq] at hs
    exact ⟨⟨g.op.skipV, []⟩, by rw [hw], hs.symm⟩
  · rename_i hw
    rw [hB] at hs
    simp only [cond_false, cond_true] at hs
    unfold stepA at hs
    split at hs
    · rename_i e he
      simp only [Option.some.injEq] at hs
      exact ⟨e, by rw [hw]; exact he, hs.symm⟩
    · cases hs

theorem keys_loc' {op : AOp} {d : Nat} {k : Key} (h : k ∈ op.keys d) : ∃ i, k = .loc d i := by
  unfold AOp.keys at h
  split at h
  · simp at h; exact ⟨0, h⟩
  · simp at h; exact ⟨0, h⟩
  · simp at h; exact ⟨0, h⟩
  · simp at h; exact ⟨0, h⟩
  · simp at h; exact ⟨0, h⟩
  · split at h
    · simp at h; exact ⟨0, h⟩
    · simp at h
  · simp at h; obtain ⟨i, _, e⟩ := h; exact ⟨i, e.symm⟩
  · simp at h

theorem insKey (hD : DrawBase ops gs ks) {i : Nat} {g : GOp} {σ : St} {e : Eff} (hg : gs[i]? = some g) (he : effOf cl σ g = some e) {k : Key} {o : HObj} (hk : lookH e.ins k = some o) :
    k ∈ g.op.keys (g.d.getD 0) ∧ ∃ d n, g.d = some d ∧ k = .loc d n := by
  unfold effOf at he
  split at he
  · cases he
  · simp only [Option.some.injEq] at he; subst he; simp [lookH] at hk
  · have h1 := aeff_ins he hk
    obtain ⟨_, d, hd⟩ := hD.keys i g hg k h1
    obtain ⟨n, hn⟩ := keys_loc' h1
    rw [hd] at hn
    exact ⟨h1, d, n, hd, hn⟩

theorem fresh (hD : DrawBase ops gs ks) (hR : Runs cl gs S) (h0 : ∀ k ∈ ks, (S 0).look k = none) {i : Nat} {g : GOp} (hg : gs[i]? = some g) {k : Key} (hk : k ∈ g.op.keys (g.d.getD 0)) : ∀ m, m ≤ i → (S m).look k = none := by
  intro m
  induction m with
  | zero => intro _; exact h0 k (hD.keys i g hg k hk).1
  | succ m ih =>
    intro hm
    have ih := ih (by omega)
    have hlt : m < gs.length := by have := (List.getElem?_eq_some_iff.1 hg).1; omega
    have hgm : gs[m]? = some gs[m] := List.getElem?_eq_getElem hlt
    have hs := hR.at' m _ hgm
    obtain ⟨_, d, hd⟩ := hD.keys i g hg k hk
    obtain ⟨n, hn⟩ := keys_loc' hk
    rw [hd] at hn
    have hne : ∀ d', (gs[m]).d = some d' → d' ≠ d := fun d' h1 e => by subst e; have := hD.dist m i _ _ d' hgm hg h1 hd; omega
    cases hl : (S (m + 1)).look k with
    | none => rfl
    | some o =>
      exfalso
      cases hB : (gs[m]).op.isB with
      | false =>
        obtain ⟨e, he, hS⟩ := effOf_step hs hB
        rw [hS, St.look_put] at hl
        unfold St.insAll St.look at hl
        simp only [lookH_append] at hl
        cases hi : lookH e.ins k with
        | some o2 =>
          obtain ⟨_, d', n', hd', hk'⟩ := insKey hD hgm he hi
          rw [hn] at hk'
          injection hk' with e1
          exact hne d' hd' e1.symm
        | none =>
          rw [hi] at hl
          unfold St.look at ih
          rw [ih] at hl
          simp at hl
      | true =>
        unfold step at hs
        split at hs
        · cases hs
        · simp only [Option.some.injEq] at hs
          rw [← hs, St.look_put, ih] at hl
          cases hl
        · rw [hB, cond_true] at hs
          rcases bstep_new hs hl with ⟨o2, h2⟩ | ⟨d', n', hd', hk'⟩ | ⟨kd, sz, b, x, y, hop, hk'⟩
          · rw [ih] at h2; cases h2
          rotate_left
          · have hd' := hD.app m _ kd sz b x y hgm hop
            rw [hn] at hk'
            injection hk' with e1
            exact hne kd hd' e1.symm
          · rw [hn] at hk'
            injection hk' with e1
            exact hne d' hd' e1.symm

theorem Seg.empty (m : Nat) {L : Nat → Prop} (hL : ∀ i, m ≤ i → i < gs.length → ¬ L i) : Seg cl gs S m L (S m) := by
  have no : ∀ i g, m ≤ i → L i → gs[i]? = some g → False := fun i g hm hl hg => hL i hm (List.getElem?_eq_some_iff.1 hg).1 hl
  exact ⟨fun t _ => rfl, fun i g e t hm hl hg => (no i g hm hl hg).elim, fun k _ => rfl, fun i g e k o hm hl hg => (no i g hm hl hg).elim⟩

theorem Seg.more (hD : DrawOK ops gs ks) {m : Nat} {L L' : Nat → Prop} {σ : St} (h : Seg cl gs S m L σ) {j : Nat} {g : GOp} {e : Eff} (hm : m ≤ j) (hg : gs[j]? = some g) (he : effOf cl (S j) g = some e) (hLj : ¬ L j) (hL' : ∀ i, L' i ↔ L i ∨ i = j) :
    Seg cl gs S m L' ((σ.insAll e.ins).put g.d e.v) := by
  have hlook : ∀ k, ((σ.insAll e.ins).put g.d e.v).look k = (lookH e.ins k).or (σ.look k) := fun k => by
    rw [St.look_put]; unfold St.insAll St.look; simp only [lookH_append]
  have hget : ∀ t, ((σ.insAll e.ins).put g.d e.v).get t = if g.d = some t then e.v else σ.get t := fun t => by
    rw [St.get_put]; rfl
  refine ⟨fun t ht => ?_, fun i g' e' t hmi hl hg' he' hd => ?_, fun k hk => ?_, fun i g' e' k o hmi hl hg' he' ho => ?_⟩
  · rw [hget, if_neg (ht j g hm ((hL' j).2 (.inr rfl)) hg)]
    exact h.g1 t (fun i g' hmi hl hg' => ht i g' hmi ((hL' i).2 (.inl hl)) hg')
  · rw [hget]
    rcases (hL' i).1 hl with hl | rfl
    · rw [if_neg (fun e1 => by have := hD.dist i j g' g t hg' hg hd e1; subst this; exact hLj hl)]
      exact h.g2 i g' e' t hmi hl hg' he' hd
    · rw [hg] at hg'; cases hg'
      rw [he] at he'; cases he'
      rw [if_pos hd]
  · rw [hlook, hk j g e hm ((hL' j).2 (.inr rfl)) hg he]
    simpa using h.l1 k (fun i g' e' hmi hl hg' he' => hk i g' e' hmi ((hL' i).2 (.inl hl)) hg' he')
  · rw [hlook]
    rcases (hL' i).1 hl with hl | rfl
    · have : lookH e.ins k = none := by
        cases hi : lookH e.ins k with
        | none => rfl
        | some o2 =>
          obtain ⟨_, d1, n1, hd1, hk1⟩ := insKey hD.toDrawBase hg he hi
          obtain ⟨_, d2, n2, hd2, hk2⟩ := insKey hD.toDrawBase hg' he' ho
          rw [hk1] at hk2
          injection hk2 with e1
          subst e1
          have := hD.dist i j g' g d1 hg' hg hd2 hd1
          subst this
          exact (hLj hl).elim
      rw [this]
      simpa using h.l2 i g' e' k o hmi hl hg' he' ho
    · rw [hg] at hg'; cases hg'
      rw [he] at he'; cases he'
      rw [ho]; rfl

/-- The states of the text's order themselves. -/
theorem Seg.text (hD : DrawOK ops gs ks) (hR : Runs cl gs S) (m : Nat) : ∀ j, m ≤ j → j ≤ gs.length → (∀ i g, m ≤ i → i < j → gs[i]? = some g → g.op.isB = false) → Seg cl gs S m (fun i => i < j) (S j) := by
  intro j
  induction j with
  | zero => intro hm _ _; have : m = 0 := by omega
            subst this; exact Seg.empty 0 (by intro i _ _ h; omega)
  | succ j ih =>
    intro hm hj hB
    by_cases e : m = j + 1
    · subst e; exact Seg.empty _ (by intro i h1 _ h2; omega)
    · have h := ih (by omega) (by omega) (fun i g h1 h2 => hB i g h1 (by omega))
      have hg : gs[j]? = some gs[j] := List.getElem?_eq_getElem (by omega)
      obtain ⟨e1, he, hS⟩ := effOf_step (hR.at' j _ hg) (hB j _ (by omega) (by omega) hg)
      rw [hS]
      exact h.more hD (by omega) hg he (by omega) (fun i => by constructor <;> intro hh <;> omega)

/-- Two states of one kind. -/
theorem Seg.same (hR : Runs cl gs S) {m : Nat} {L L' : Nat → Prop} {σ σ' : St} (h : Seg cl gs S m L σ) (h' : Seg cl gs S m L' σ') (hL : ∀ i, m ≤ i → i < gs.length → (L i ↔ L' i)) (hB : ∀ i g, m ≤ i → L i → gs[i]? = some g → g.op.isB = false) :
    (∀ t, σ'.get t = σ.get t) ∧ (∀ k, σ'.look k = σ.look k) := by
  have hex : ∀ i g, m ≤ i → L i → gs[i]? = some g → ∃ e, effOf cl (S i) g = some e := fun i g hm hl hg => by
    obtain ⟨e, he, _⟩ := effOf_step (hR.at' i g hg) (hB i g hm hl hg)
    exact ⟨e, he⟩
  have hlt : ∀ {i g}, gs[i]? = some g → i < gs.length := fun hg => (List.getElem?_eq_some_iff.1 hg).1
  refine ⟨fun t => ?_, fun k => ?_⟩
  · by_cases hc : ∃ i g, m ≤ i ∧ L i ∧ gs[i]? = some g ∧ g.d = some t
    · obtain ⟨i, g, hm, hl, hg, hd⟩ := hc
      obtain ⟨e, he⟩ := hex i g hm hl hg
      rw [h.g2 i g e t hm hl hg he hd, h'.g2 i g e t hm ((hL i hm (hlt hg)).1 hl) hg he hd]
    · rw [h.g1 t (fun i g hm hl hg hd => hc ⟨i, g, hm, hl, hg, hd⟩), h'.g1 t (fun i g hm hl hg hd => hc ⟨i, g, hm, (hL i hm (hlt hg)).2 hl, hg, hd⟩)]
  · by_cases hc : ∃ i g e o, m ≤ i ∧ L i ∧ gs[i]? = some g ∧ effOf cl (S i) g = some e ∧ lookH e.ins k = some o
    · obtain ⟨i, g, e, o, hm, hl, hg, he, ho⟩ := hc
      rw [h.l2 i g e k o hm hl hg he ho, h'.l2 i g e k o hm ((hL i hm (hlt hg)).1 hl) hg he ho]
    · have none' : ∀ i g e, m ≤ i → L i → gs[i]? = some g → effOf cl (S i) g = some e → lookH e.ins k = none := fun i g e hm hl hg he => by
        cases ho : lookH e.ins k with
        | none => rfl
        | some o => exact (hc ⟨i, g, e, o, hm, hl, hg, he, ho⟩).elim
      rw [h.l1 k none', h'.l1 k (fun i g e hm hl hg he => none' i g e hm ((hL i hm (hlt hg)).2 hl) hg he)]

/-- What an operation comes to does not hang on who has run besides those whose values it looks at. -/
theorem Seg.eff0 (hD : DrawOK ops gs ks) (hR : Runs cl gs S) (h0 : ∀ k ∈ ks, (S 0).look k = none) {P : Program} {m : Nat} {L : Nat → Prop} {σ : St} (h : Seg cl gs S m L σ)
    {j : Nat} {g : GOp} {e : Eff} (hr : ∀ t ∈ g.looks, ∀ k, (σ.get t).names k = true → ∃ o, σ.look k = some o) (hm : m ≤ j) (hg : gs[j]? = some g) (hB : ∀ i g, m ≤ i → i < j → gs[i]? = some g → g.op.isB = false) (hBL : ∀ i g, m ≤ i → L i → gs[i]? = some g → g.op.isB = false) (hreach : ∀ i, Reach ops j i → L i) (he : effOf cl (S j) g = some e) :
    effOf cl σ g = some e := by
  have hlt : ∀ {i g}, gs[i]? = some g → i < gs.length := fun hg => (List.getElem?_eq_some_iff.1 hg).1
  have ht := Seg.text (cl := cl) hD hR m j hm (by have := hlt hg; omega) hB
  have hex : ∀ i g, m ≤ i → i < j → gs[i]? = some g → ∃ e, effOf cl (S i) g = some e := fun i g hm hl hg => by
    obtain ⟨e, he, _⟩ := effOf_step (hR.at' i g hg) (hB i g hm hl hg)
    exact ⟨e, he⟩
  have hexL : ∀ i g, m ≤ i → L i → gs[i]? = some g → ∃ e, effOf cl (S i) g = some e := fun i g hm hl hg => by
    obtain ⟨e, he, _⟩ := effOf_step (hR.at' i g hg) (hBL i g hm hl hg)
    exact ⟨e, he⟩
  have hget : ∀ t ∈ g.looks, σ.get t = (S j).get t := by
    intro t htl
    by_cases hc : ∃ i g', m ≤ i ∧ gs[i]? = some g' ∧ g'.d = some t
    · obtain ⟨i, g', hmi, hg', hd⟩ := hc
      obtain ⟨q1, q2⟩ := hD.looks j g hg t htl i g' hg' hd
      obtain ⟨e', he'⟩ := hex i g' hmi q1 hg'
      rw [h.g2 i g' e' t hmi (hreach i q2) hg' he' hd, ht.g2 i g' e' t hmi q1 hg' he' hd]
    · rw [h.g1 t (fun i g' hmi _ hg' hd => hc ⟨i, g', hmi, hg', hd⟩), ht.g1 t (fun i g' hmi _ hg' hd => hc ⟨i, g', hmi, hg', hd⟩)]
  have hlk : ∀ t ∈ g.looks, Covers (S j) σ ((S j).get t) := by
    intro t htl k o hn hk
    obtain ⟨o', ho'⟩ := hr t htl k (by rw [hget t htl]; exact hn)
    -- where is k from, in the text's state?
    by_cases hc : ∃ i g' e' o1, m ≤ i ∧ i < j ∧ gs[i]? = some g' ∧ effOf cl (S i) g' = some e' ∧ lookH e'.ins k = some o1
    · obtain ⟨i, g', e', o1, hmi, hij, hg', he', ho1⟩ := hc
      have e1 := ht.l2 i g' e' k o1 hmi hij hg' he' ho1
      rw [hk] at e1; cases e1
      obtain ⟨hkk, d1, n1, hd1, hk1⟩ := insKey hD.toDrawBase hg' he' ho1
      by_cases hc2 : ∃ i2 g2 e2 o2, m ≤ i2 ∧ L i2 ∧ gs[i2]? = some g2 ∧ effOf cl (S i2) g2 = some e2 ∧ lookH e2.ins k = some o2
      · obtain ⟨i2, g2, e2, o2, hmi2, hl2, hg2, he2, ho2⟩ := hc2
        obtain ⟨_, d2, n2, hd2, hk2⟩ := insKey hD.toDrawBase hg2 he2 ho2
        rw [hk1] at hk2
        injection hk2 with e1
        subst e1
        have := hD.dist i i2 g' g2 d1 hg' hg2 hd1 hd2
        subst this
        exact h.l2 i g' e' k _ hmi hl2 hg' he' ho1
      · have := h.l1 k (fun i2 g2 e2 hmi2 hl2 hg2 he2 => by
          cases ho : lookH e2.ins k with
          | none => rfl
          | some o2 => exact (hc2 ⟨i2, g2, e2, o2, hmi2, hl2, hg2, he2, ho⟩).elim)
        rw [fresh hD.toDrawBase hR h0 hg' hkk m hmi] at this
        rw [this] at ho'; cases ho'
    · have e1 := ht.l1 k (fun i g' e' hmi hij hg' he' => by
        cases ho : lookH e'.ins k with
        | none => rfl
        | some o1 => exact (hc ⟨i, g', e', o1, hmi, hij, hg', he', ho⟩).elim)
      rw [hk] at e1
      have e2 := h.l1 k (fun i g' e' hmi hl hg' he' => by
        cases ho : lookH e'.ins k with
        | none => rfl
        | some o1 =>
          obtain ⟨hkk, _⟩ := insKey hD.toDrawBase hg' he' ho
          rw [fresh hD.toDrawBase hR h0 hg' hkk m hmi] at e1
          cases e1)
      rw [e2, ← e1]
  have hwants : σ.wants g.g = (S j).wants g.g := by
    cases hgg : g.g with
    | none => rfl
    | some p =>
      obtain ⟨t, b⟩ := p
      simp only [St.wants]
      rw [hget t (by simp [GOp.looks, hgg])]
  unfold effOf at he ⊢
  rw [hwants]
  split at he
  · cases he
  · rename_i hw
    exact he
  · rename_i hw
    have hx : ∀ x ∈ g.op.opds, (σ.ev x = (S j).ev x) ∧ Covers (S j) σ ((S j).ev x) := by
      intro x hx
      cases x with
      | tmp t =>
        have hm : t ∈ g.looks := by
          simp only [GOp.looks, List.mem_append]
          exact .inr (by simp only [AOp.tmps, List.mem_filterMap]; exact ⟨_, hx, rfl⟩)
        exact ⟨hget t hm, hlk t hm⟩
      | cst p => exact ⟨rfl, fun k o hn => by simp [St.ev, SV.names] at hn⟩
      | nils => exact ⟨rfl, fun k o hn => by simp [St.ev, SV.names] at hn⟩
    exact aeff_local (fun x hx' => (hx x hx').1) (fun x hx' => (hx x hx').2) he

theorem Seg.eff (hD : DrawOK ops gs ks) (hR : Runs cl gs S) (h0 : ∀ k ∈ ks, (S 0).look k = none) {P : Program} {C : Ctx} {β : Key → Blk} {a : Act} {w : World} {m : Nat} {L : Nat → Prop} {σ : St} (h : Seg cl gs S m L σ) (hr : RR C β σ a w)
    {j : Nat} {g : GOp} {e : Eff} (hm : m ≤ j) (hg : gs[j]? = some g) (hB : ∀ i g, m ≤ i → i < j → gs[i]? = some g → g.op.isB = false) (hBL : ∀ i g, m ≤ i → L i → gs[i]? = some g → g.op.isB = false) (hreach : ∀ i, Reach ops j i → L i) (he : effOf cl (S j) g = some e) :
    effOf cl σ g = some e := h.eff0 (P := P) hD hR h0 (fun t _ k hn => (hr.slots t).there hn) hm hg hB hBL hreach he

end
end Go.Av
