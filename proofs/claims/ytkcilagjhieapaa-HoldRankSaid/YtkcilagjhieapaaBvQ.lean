/- Regions whose order is drawn, with operations that no order binds to a store: the proof. -/
import Derived.Test.YtkcilagjhieapaaBvP
set_option linter.unusedVariables false
set_option linter.unusedSimpArgs false
namespace Go.Av

theorem HObj.sim_symm {x y : HObj} (h : x.sim y) : y.sim x := by
  cases x <;> cases y <;> simp_all [HObj.sim]
section
variable {cl : Callee} {ops : List Oper} {gs : List GOp} {ks : List Key} {S : Nat → St}

theorem look_ins {σ : St} {l : List (Key × HObj)} {d : Option Nat} {v : SV} (k : Key) : ((σ.insAll l).put d v).look k = (lookH l k).or (σ.look k) := by
  rw [St.look_put]; unfold St.insAll St.look; simp only [lookH_append]

theorem get_ins {σ : St} {l : List (Key × HObj)} {d : Option Nat} {v : SV} (t : Nat) : ((σ.insAll l).put d v).get t = if d = some t then v else σ.get t := by rw [St.get_put]; rfl

theorem step_forms {σ σ' : St} {g : GOp} (hs : step cl true σ g = some σ') (hB : g.op.isB = true → g.op.isStore = true) :
    (g.op.isStore = false ∧ ∃ e, effOf cl σ g = some e ∧ σ' = (σ.insAll e.ins).put g.d e.v) ∨ (g.op.isStore = true ∧ σ.wants g.g = some false ∧ σ' = σ.put g.d .dead) ∨
    (g.op.isStore = true ∧ σ.wants g.g = some true ∧ bstep cl σ g.d g.op = some σ') := by
  cases hst : g.op.isStore with
  | false =>
    have : g.op.isB = false := by cases hb : g.op.isB with
      | false => rfl
      | true => rw [hB hb] at hst; cases hst
    exact .inl ⟨rfl, effOf_step hs this⟩
  | true =>
    have hb : g.op.isB = true := by
      cases hop : g.op <;> rw [hop] at hst <;> first | rfl | cases hst
    unfold step at hs
    split at hs
    · cases hs
    · rename_i hw
      simp only [Option.some.injEq] at hs
      exact .inr (.inl ⟨rfl, hw, by rw [← hs]; unfold AOp.skipV; rw [hb]; rfl⟩)
    · rename_i hw
      rw [hb, cond_true] at hs
      exact .inr (.inr ⟨rfl, hw, hs⟩)

theorem S_get (hD : DrawOK2 ops gs ks) (hR : Runs cl gs S) {i : Nat} {g : GOp} (hg : gs[i]? = some g) {t : Nat} (ht : g.d ≠ some t) : (S (i + 1)).get t = (S i).get t := by
  rcases step_forms (hR.at' i g hg) (hD.onlyS i g hg) with ⟨_, e, _, h⟩ | ⟨_, _, h⟩ | ⟨hst, _, hb⟩
  · rw [h, get_ins, if_neg ht]
  · rw [h, St.get_put, if_neg ht]
  · obtain ⟨k, o, o', _, _, h, _⟩ := store_step hst hb
    rw [h, St.get_put, if_neg ht]; rfl

theorem S_get_far (hD : DrawOK2 ops gs ks) (hR : Runs cl gs S) {i : Nat} {g : GOp} (hg : gs[i]? = some g) {t : Nat} (ht : g.d = some t) : ∀ m, i + 1 ≤ m → m ≤ gs.length → (S m).get t = (S (i + 1)).get t := by
  intro m
  induction m with
  | zero => intro h _; omega
  | succ m ih =>
    intro h1 h2
    by_cases e : i = m
    · subst e; rfl
    · have hgm : gs[m]? = some (gs[m]'(by omega)) := List.getElem?_eq_getElem (by omega)
      rw [S_get hD hR hgm (fun hd => e (hD.dist i m g _ t hg hgm ht hd)), ih (by omega) (by omega)]

theorem S_get_base (hD : DrawOK2 ops gs ks) (hR : Runs cl gs S) {t : Nat} : ∀ m, m ≤ gs.length → (∀ i g, i < m → gs[i]? = some g → g.d ≠ some t) → (S m).get t = (S 0).get t := by
  intro m
  induction m with
  | zero => intro _ _; rfl
  | succ m ih =>
    intro h1 h2
    have hgm : gs[m]? = some (gs[m]'(by omega)) := List.getElem?_eq_getElem (by omega)
    rw [S_get hD hR hgm (h2 m _ (by omega) hgm), ih (by omega) (fun i g hi hg => h2 i g (by omega) hg)]

theorem S_look_next (hD : DrawOK2 ops gs ks) (hR : Runs cl gs S) (h0 : ∀ k ∈ ks, (S 0).look k = none) {i : Nat} {g : GOp} (hg : gs[i]? = some g) {k : Key} {o : HObj} (hk : (S i).look k = some o) :
    ∃ o', (S (i + 1)).look k = some o' ∧ o.sim o' ∧ (g.op.isStore = false → o' = o) := by
  rcases step_forms (hR.at' i g hg) (hD.onlyS i g hg) with ⟨_, e, he, h⟩ | ⟨_, _, h⟩ | ⟨hst, _, hb⟩
  · have : lookH e.ins k = none := by
      cases hl : lookH e.ins k with
      | none => rfl
      | some o2 =>
        have := fresh hD.toDrawBase hR h0 hg (insKey hD.toDrawBase hg he hl).1 i (Nat.le_refl _)
        rw [hk] at this; cases this
    exact ⟨o, by rw [h, look_ins, this, hk]; rfl, o.sim_refl, fun _ => rfl⟩
  · exact ⟨o, by rw [h, St.look_put, hk], o.sim_refl, fun _ => rfl⟩
  · obtain ⟨k1, o1, o', hk1, hsim, h, _⟩ := store_step hst hb
    by_cases e : k = k1
    · subst e
      rw [hk] at hk1; cases hk1
      exact ⟨o', by rw [h, St.look_put, St.look_over]; simp [hk], hsim, fun hc => by rw [hst] at hc; cases hc⟩
    · exact ⟨o, by rw [h, St.look_put, St.look_over, if_neg e, hk], o.sim_refl, fun _ => rfl⟩

theorem S_look_far (hD : DrawOK2 ops gs ks) (hR : Runs cl gs S) (h0 : ∀ k ∈ ks, (S 0).look k = none) {i : Nat} {k : Key} {o : HObj} (hk : (S i).look k = some o) : ∀ m, i ≤ m → m ≤ gs.length →
    ∃ o', (S m).look k = some o' ∧ o.sim o' ∧ ((∀ q g, i ≤ q → q < m → gs[q]? = some g → g.op.isStore = false) → o' = o) := by
  intro m
  induction m with
  | zero => intro h1 _; have : i = 0 := by omega
            subst this; exact ⟨o, hk, o.sim_refl, fun _ => rfl⟩
  | succ m ih =>
    intro h1 h2
    by_cases e : i = m + 1
    · subst e; exact ⟨o, hk, o.sim_refl, fun _ => rfl⟩
    · obtain ⟨o1, q1, q2, q3⟩ := ih (by omega) (by omega)
      have hgm : gs[m]? = some (gs[m]'(by omega)) := List.getElem?_eq_getElem (by omega)
      obtain ⟨o2, r1, r2, r3⟩ := S_look_next hD hR h0 hgm q1
      refine ⟨o2, r1, HObj.sim_trans q2 r2, fun hall => ?_⟩
      rw [r3 (hall m _ (by omega) (by omega) hgm), q3 (fun q g a b c => hall q g a (by omega) c)]

theorem S_src (hD : DrawOK2 ops gs ks) (hR : Runs cl gs S) {k : Key} : ∀ m, m ≤ gs.length → ∀ om, (S m).look k = some om → (∃ o0, (S 0).look k = some o0) ∨ ∃ i g o1, i < m ∧ gs[i]? = some g ∧ k ∈ g.op.keys (g.d.getD 0) ∧ (S (i + 1)).look k = some o1 := by
  intro m
  induction m with
  | zero => intro _ om h; exact .inl ⟨om, h⟩
  | succ m ih =>
    intro h1 om h
    have hgm : gs[m]? = some (gs[m]'(by omega)) := List.getElem?_eq_getElem (by omega)
    have prev : (∃ o, (S m).look k = some o) ∨ k ∈ (gs[m]'(by omega)).op.keys ((gs[m]'(by omega)).d.getD 0) := by
      rcases step_forms (hR.at' m _ hgm) (hD.onlyS m _ hgm) with ⟨_, e, he, hS⟩ | ⟨_, _, hS⟩ | ⟨hst, _, hb⟩
      · rw [hS, look_ins] at h
        cases hl : lookH e.ins k with
        | some o2 => exact .inr (insKey hD.toDrawBase hgm he hl).1
        | none => rw [hl] at h; exact .inl ⟨om, by simpa using h⟩
      · rw [hS, St.look_put] at h; exact .inl ⟨_, h⟩
      · obtain ⟨k1, o1, o', hk1, hsim, hS, _⟩ := store_step hst hb
        rw [hS, St.look_put] at h
        exact .inl (over_look h)
    rcases prev with ⟨o, ho⟩ | hk
    · rcases ih (by omega) o ho with hb | ⟨i, g, o1, q1, q2⟩
      · exact .inl hb
      · exact .inr ⟨i, g, o1, by omega, q2⟩
    · exact .inr ⟨m, _, om, by omega, hgm, hk, h⟩

structure Seg2 (cl : Callee) (gs : List GOp) (S : Nat → St) (L : Nat → Prop) (m : Nat) (σ : St) : Prop where
  st : ∀ i g, gs[i]? = some g → g.op.isStore = true → (L i ↔ i < m)
  g1 : ∀ t, (∀ i g, L i → gs[i]? = some g → g.d ≠ some t) → σ.get t = (S 0).get t
  g2 : ∀ i g t, L i → gs[i]? = some g → g.d = some t → σ.get t = (S (i + 1)).get t
  l0 : ∀ k o, σ.look k = some o → (∃ o0, (S 0).look k = some o0) ∨ ∃ i g o1, L i ∧ gs[i]? = some g ∧ k ∈ g.op.keys (g.d.getD 0) ∧ (S (i + 1)).look k = some o1
  lS : ∀ k o0, (S 0).look k = some o0 → ∃ o, σ.look k = some o ∧ o0.sim o
  lI : ∀ i g k o0, L i → gs[i]? = some g → k ∈ g.op.keys (g.d.getD 0) → (S (i + 1)).look k = some o0 → ∃ o, σ.look k = some o ∧ o0.sim o
  eq : ∀ k o o', σ.look k = some o → (S m).look k = some o' → o = o'
  new : ∀ i g k o, L i → m ≤ i → gs[i]? = some g → k ∈ g.op.keys (g.d.getD 0) → (S (i + 1)).look k = some o → σ.look k = some o

theorem keys_one (hD : DrawBase ops gs ks) {i i' : Nat} {g g' : GOp} {k : Key} (hg : gs[i]? = some g) (hg' : gs[i']? = some g') (hk : k ∈ g.op.keys (g.d.getD 0)) (hk' : k ∈ g'.op.keys (g'.d.getD 0)) : i = i' := by
  obtain ⟨_, d, hd⟩ := hD.keys i g hg k hk
  obtain ⟨_, d', hd'⟩ := hD.keys i' g' hg' k hk'
  obtain ⟨n, hn⟩ := keys_loc' hk
  obtain ⟨n', hn'⟩ := keys_loc' hk'
  rw [hd] at hn
  rw [hd'] at hn'
  rw [hn] at hn'
  injection hn' with e
  have e : d = d' := e
  subst e
  exact hD.dist i i' g g' d hg hg' hd hd'

/-- What a ready operation looks at. -/
theorem Seg2.get (hD : DrawOK2 ops gs ks) (hR : Runs cl gs S) {L : Nat → Prop} {m : Nat} {σ : St} (h : Seg2 cl gs S L m σ) {j : Nat} {g : GOp} (hg : gs[j]? = some g) (hreach : ∀ i, Reach ops j i → L i) {t : Nat} (ht : t ∈ g.looks) : σ.get t = (S j).get t := by
  have hlt := (List.getElem?_eq_some_iff.1 hg).1
  by_cases hc : ∃ (i : Nat) (g' : GOp), gs[i]? = some g' ∧ g'.d = some t
  · obtain ⟨i, g', hg', hd⟩ := hc
    obtain ⟨q1, q2⟩ := hD.looks j g hg t ht i g' hg' hd
    rw [h.g2 i g' t (hreach i q2) hg' hd, S_get_far hD hR hg' hd j (by omega) (by omega)]
  · rw [h.g1 t (fun i g' _ hg' hd => hc ⟨i, g', hg', hd⟩), S_get_base hD hR j (by omega) (fun i g' _ hg' hd => hc ⟨i, g', hg', hd⟩)]

/-- Shapes are those of the text's states. -/
theorem Seg2.shape (hD : DrawOK2 ops gs ks) (hR : Runs cl gs S) (h0 : ∀ k ∈ ks, (S 0).look k = none) {L : Nat → Prop} {m : Nat} {σ : St} (h : Seg2 cl gs S L m σ) {j : Nat} (hj : j ≤ gs.length) {k : Key} {o oj : HObj} (ho : σ.look k = some o) (hk : (S j).look k = some oj) : oj.sim o := by
  rcases S_src hD hR j hj oj hk with ⟨o0, hb⟩ | ⟨i, g, o1, q1, q2, q3, q4⟩
  · obtain ⟨o2, r1, r2⟩ := h.lS k o0 hb
    rw [ho] at r1; cases r1
    obtain ⟨o3, s1, s2, _⟩ := S_look_far hD hR h0 hb j (Nat.zero_le _) hj
    rw [hk] at s1; cases s1
    exact HObj.sim_trans (HObj.sim_symm s2) r2
  · have hno : (S 0).look k = none := h0 k (hD.keys i g q2 k q3).1
    rcases h.l0 k o ho with ⟨o0, hb⟩ | ⟨i', g', o1', p1, p2, p3, p4⟩
    · rw [hno] at hb; cases hb
    · have := keys_one hD.toDrawBase q2 p2 q3 p3
      subst this
      rw [q2] at p2; cases p2
      obtain ⟨o2, r1, r2⟩ := h.lI i g k o1 p1 q2 q3 q4
      rw [ho] at r1; cases r1
      obtain ⟨o3, s1, s2, _⟩ := S_look_far hD hR h0 q4 j (by omega) hj
      rw [hk] at s1; cases s1
      exact HObj.sim_trans (HObj.sim_symm s2) r2

/-- No store between: the objects are those of the text's state. -/
theorem Seg2.exact (hD : DrawOK2 ops gs ks) (hR : Runs cl gs S) (h0 : ∀ k ∈ ks, (S 0).look k = none) {L : Nat → Prop} {m : Nat} {σ : St} (h : Seg2 cl gs S L m σ) (hm : m ≤ gs.length) {j : Nat} (hj : j ≤ gs.length) (hst : ∀ i g, gs[i]? = some g → g.op.isStore = true → (i < m ↔ i < j))
    {k : Key} {o oj : HObj} (ho : σ.look k = some o) (hk : (S j).look k = some oj) : o = oj := by
  have nostore : ∀ (lo hi : Nat), (lo = m ∧ hi = j ∨ lo = j ∧ hi = m) → ∀ q g, lo ≤ q → q < hi → gs[q]? = some g → g.op.isStore = false := by
    intro lo hi hc q g a b hg
    cases hs : g.op.isStore with
    | false => rfl
    | true =>
      have := hst q g hg hs
      rcases hc with ⟨rfl, rfl⟩ | ⟨rfl, rfl⟩
      · have := this.2 b; omega
      · have := this.1 b; omega
  by_cases hle : j ≤ m
  · obtain ⟨o', s1, _, s3⟩ := S_look_far hD hR h0 hk m hle hm
    rw [h.eq k o o' ho s1, s3 (nostore j m (.inr ⟨rfl, rfl⟩))]
  · cases hkm : (S m).look k with
    | some o' =>
      obtain ⟨o2, s1, _, s3⟩ := S_look_far hD hR h0 hkm j (by omega) hj
      rw [hk] at s1; cases s1
      rw [h.eq k o o' ho hkm, s3 (nostore m j (.inl ⟨rfl, rfl⟩))]
    | none =>
      rcases S_src hD hR j hj oj hk with ⟨o0, hb⟩ | ⟨i, g, o1, q1, q2, q3, q4⟩
      · obtain ⟨o', s1, _⟩ := S_look_far hD hR h0 hb m (Nat.zero_le _) hm
        rw [hkm] at s1; cases s1
      · have him : m ≤ i := by
          by_cases hh : m ≤ i
          · exact hh
          · obtain ⟨o', s1, _⟩ := S_look_far hD hR h0 q4 m (by omega) hm
            rw [hkm] at s1; cases s1
        have hno : (S 0).look k = none := h0 k (hD.keys i g q2 k q3).1
        rcases h.l0 k o ho with ⟨o0, hb⟩ | ⟨i', g', o1', p1, p2, p3, p4⟩
        · rw [hno] at hb; cases hb
        · have := keys_one hD.toDrawBase q2 p2 q3 p3
          subst this
          rw [q2] at p2; cases p2
          have e1 := h.new i g k o1 p1 him q2 q3 q4
          rw [ho] at e1; cases e1
          obtain ⟨o2, s1, _, s3⟩ := S_look_far hD hR h0 q4 j (by omega) hj
          rw [hk] at s1; cases s1
          exact (s3 (fun q g a b c => nostore m j (.inl ⟨rfl, rfl⟩) q g (by omega) b c)).symm

end
end Go.Av
