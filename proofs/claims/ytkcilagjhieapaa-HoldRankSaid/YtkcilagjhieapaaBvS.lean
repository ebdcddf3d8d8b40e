/- Regions whose order is drawn, with operations that no order binds to a store: the machine's. -/
import Derived.Test.YtkcilagjhieapaaBvR
set_option linter.unusedVariables false
set_option linter.unusedSimpArgs false
namespace Go.Av
section
variable {P : Program} {C : Ctx} {β : Key → Blk} {σ : St} {a : Act} {w : World} {cl : Callee} {ops : Array Oper} {gs : List GOp} {ks : List Key}

theorem sound_draw2 (hm : P.follows .mixedOrders = true) (hS : Sound P cl) {Q : Exit → Act → World → Prop} (hck : drawOK2 ops.toList gs ks = true) (hag : all2 (agreeG P C.nt ops) ops.toList gs = true) {σ' : St} (h : RR C β σ a w)
    (hr : runOps cl true gs (σ.killAll ks) = some σ') (hQ : ∀ β' a' w', RR C β' σ' a' w' → Q .normal a' w') : wpAny P .any ops Q ops.size (Array.replicate ops.size false) a { w with drawn := w.drawn + 1 } := by
  have hD := drawOK2_spec hck
  obtain ⟨S, e1, e2, hR⟩ := runs_of hr
  have h0 : ∀ k ∈ ks, (S 0).look k = none := fun k hk => by rw [e1]; exact look_killAll _ _ _ hk
  have hlen : ops.size = gs.length := by simpa using hD.len
  have hop : ∀ {j : Nat} {o : Oper}, ops[j]? = some o → ops.toList[j]? = some o := fun h => by rw [Array.getElem?_toList]; exact h
  have main : ∀ (fuel : Nat) (listed : Array Bool) (a : Act) (w : World) (m : Nat) (β : Key → Blk) (σ : St), listed.size = ops.size → ((List.range ops.size).filter fun i => !listed.getD i false).length ≤ fuel →
      (∀ i o e, listed.getD i false = true → ops.toList[i]? = some o → e ∈ o.after → Region.binds .any e = true → listed.getD e.on false = true) → m ≤ gs.length →
      Seg2 cl gs S (fun i => listed.getD i false = true) m σ → RR C β σ a w → wpAny P .any ops Q fuel listed a w := by
    have fin : ∀ (listed : Array Bool) (a : Act) (w : World) (m : Nat) (β : Key → Blk) (σ : St), m ≤ gs.length → (∀ i, i < ops.size → listed.getD i false = true) → Seg2 cl gs S (fun i => listed.getD i false = true) m σ → RR C β σ a w → Q .normal a w := by
      intro listed a w m β σ hmn hall hseg hr
      have hst : ∀ i g, gs[i]? = some g → g.op.isStore = true → (i < m ↔ i < gs.length) := fun i g hg hs => by
        have hlt := (List.getElem?_eq_some_iff.1 hg).1
        exact ⟨fun _ => hlt, fun _ => (hseg.st i g hg hs).1 (hall i (by omega))⟩
      have hg : ∀ t, (S gs.length).get t = σ.get t := by
        intro t
        by_cases hc : ∃ (i : Nat) (g' : GOp), gs[i]? = some g' ∧ g'.d = some t
        · obtain ⟨i, g', hg', hd⟩ := hc
          have hlt := (List.getElem?_eq_some_iff.1 hg').1
          rw [hseg.g2 i g' t (hall i (by omega)) hg' hd, S_get_far hD hR hg' hd gs.length (by omega) (Nat.le_refl _)]
        · rw [hseg.g1 t (fun i g' _ hg' hd => hc ⟨i, g', hg', hd⟩), S_get_base hD hR gs.length (Nat.le_refl _) (fun i g' _ hg' hd => hc ⟨i, g', hg', hd⟩)]
      have hl : ∀ k, (S gs.length).look k = σ.look k := by
        intro k
        cases hk : (S gs.length).look k with
        | some oj =>
          have : ∃ o, σ.look k = some o := by
            rcases S_src hD hR gs.length (Nat.le_refl _) oj hk with ⟨o0, hb⟩ | ⟨i, g, o1, q1, q2, q3, q4⟩
            · obtain ⟨o, h1, _⟩ := hseg.lS k o0 hb; exact ⟨o, h1⟩
            · obtain ⟨o, h1, _⟩ := hseg.lI i g k o1 (hall i (by omega)) q2 q3 q4; exact ⟨o, h1⟩
          obtain ⟨o, ho⟩ := this
          rw [ho, hseg.exact hD hR h0 hmn (Nat.le_refl _) hst ho hk]
        | none =>
          cases ho : σ.look k with
          | none => rfl
          | some o =>
            rcases hseg.l0 k o ho with ⟨o0, hb⟩ | ⟨i, g, o1, q1, q2, q3, q4⟩
            · obtain ⟨o', s1, _⟩ := S_look_far hD hR h0 hb gs.length (Nat.zero_le _) (Nat.le_refl _)
              rw [hk] at s1; cases s1
            · have hlt := (List.getElem?_eq_some_iff.1 q2).1
              obtain ⟨o', s1, _⟩ := S_look_far hD hR h0 q4 gs.length (by omega) (Nat.le_refl _)
              rw [hk] at s1; cases s1
      have := hr.congr hg hl
      rw [e2] at this
      exact hQ _ _ _ this
    intro fuel
    induction fuel with
    | zero =>
      intro listed a w m β σ hsz hcnt hcl hmn hseg hr
      have hall : ∀ i, i < ops.size → listed.getD i false = true := by
        intro i hi
        have h1 := List.eq_nil_of_length_eq_zero (Nat.le_zero.1 hcnt)
        have h2 := (List.filter_eq_nil_iff.1 h1) i (List.mem_range.2 hi)
        simpa using h2
      refine ⟨?_, ?_⟩
      · rw [List.eq_nil_iff_forall_not_mem]
        intro j hj
        obtain ⟨q1, o, q2, _⟩ := mem_ready.1 hj
        have hlt := (Array.getElem?_eq_some_iff.1 q2).1
        have := hall j hlt
        have e : listed.getD j true = listed.getD j false := by simp [Array.getD, hsz, hlt]
        rw [e, this] at q1; cases q1
      · exact fin listed a w m β σ hmn hall hseg hr
    | succ fuel ih =>
      intro listed a w m β σ hsz hcnt hcl hmn hseg hr
      have hgd : ∀ {j : Nat}, j < ops.size → listed.getD j true = listed.getD j false := fun hlt => by simp [Array.getD, hsz, hlt]
      refine ⟨fun hnil => ?_, fun j hj => ?_⟩
      · have hall : ∀ i, i < ops.size → listed.getD i false = true := by
          intro i
          induction i using Nat.strongRecOn with
          | _ i ih2 =>
            intro hi
            cases hc : listed.getD i false with
            | true => rfl
            | false =>
              have : i ∈ Region.ready .any ops listed := by
                refine mem_ready.2 ⟨by rw [hgd hi]; exact hc, ops[i], Array.getElem?_eq_getElem hi, fun e he hb => ?_⟩
                have := hD.back i _ (hop (Array.getElem?_eq_getElem hi)) e he hb
                exact ih2 _ this (by omega)
              rw [hnil] at this
              cases this
        exact fin listed a w m β σ hmn hall hseg hr
      · obtain ⟨hun, o, ho, hafter⟩ := mem_ready.1 hj
        have hlt := (Array.getElem?_eq_some_iff.1 ho).1
        rw [hgd hlt] at hun
        have hg : gs[j]? = some (gs[j]'(by omega)) := List.getElem?_eq_getElem (by omega)
        have hreach : ∀ i, Reach ops.toList j i → listed.getD i false = true := fun i hR' => reach_listed (L := fun i => listed.getD i false = true) hcl hR' (fun o' e ho' he hb => by
          rw [hop ho] at ho'; cases ho'; exact hafter e he hb)
        have hG := all2G hag j o _ (hop ho) hg
        have hset : ∀ i, (listed.setIfInBounds j true).getD i false = true ↔ listed.getD i false = true ∨ i = j := by
          intro i
          rw [getD_set]
          by_cases e : j = i
          · subst e; simp [hsz, hlt]
          · rw [if_neg (fun h => e h.1)]
            constructor
            · exact .inl
            · rintro (h | h)
              · exact h
              · exact absurd h.symm e
        have hcnt' : ((List.range ops.size).filter fun i => !(listed.setIfInBounds j true).getD i false).length ≤ fuel := by
          have := filter_less (p := fun i => !listed.getD i false) (q := fun i => !(listed.setIfInBounds j true).getD i false) (List.range ops.size) j (List.mem_range.2 hlt) (by simp [hun]) (by simp [(hset j).2 (.inr rfl)])
            (fun i hi => by
              simp only [Bool.not_eq_true'] at hi ⊢
              cases hc : listed.getD i false with
              | false => rfl
              | true => rw [(hset i).2 (.inl hc)] at hi; cases hi)
          omega
        have hcl' : ∀ i o e, (listed.setIfInBounds j true).getD i false = true → ops.toList[i]? = some o → e ∈ o.after → Region.binds .any e = true → (listed.setIfInBounds j true).getD e.on false = true := by
          intro i o' e hi ho' he hb
          rcases (hset i).1 hi with hi | rfl
          · exact (hset _).2 (.inl (hcl i o' e hi ho' he hb))
          · rw [hop ho] at ho'; cases ho'
            exact (hset _).2 (.inl (hafter e he hb))
        refine guarded_wpOp ho ?_
        have hLj : ¬ listed.getD j false = true := by rw [hun]; simp
        have hback : ∀ i, listed.getD i false = true → Reach ops.toList i j → listed.getD j false = true := fun i hi hR' =>
          reach_listed (L := fun i => listed.getD i false = true) hcl hR' (fun o' e ho' he hb => hcl i o' e hi ho' he hb)
        have hltj : j < gs.length := by omega
        have next : ∀ (m' : Nat) (σ' : St), m' ≤ gs.length → Seg2 cl gs S (fun i => (listed.setIfInBounds j true).getD i false = true) m' σ' → ∀ β' a' w', RR C β' σ' a' w' → wpAny P .any ops Q fuel (listed.setIfInBounds j true) a' w' :=
          fun m' σ' hm' hs' β' a' w' h' => ih _ a' w' m' β' σ' (by simpa using hsz) hcnt' hcl' hm' hs' h'
        rcases step_forms (hR.at' j _ hg) (hD.onlyS j _ hg) with ⟨hns, e, he, hSj⟩ | ⟨hst, hw, hSj⟩ | ⟨hst, hw, hb⟩
        · have he' := hseg.eff (P := P) hD hR h0 hmn hr hg hreach hback hLj he
          refine guardedA hS hr hG he' (fun k hk => ?_) (fun β' a' w' h' => next m _ hmn (hseg.moreA hD hR h0 hmn hg hreach hback hLj hns he hSj hset) β' a' w' h') Q
          cases hl : σ.look k with
          | none => rfl
          | some o2 =>
            exfalso
            rcases hseg.l0 k o2 hl with ⟨o0, hb⟩ | ⟨i, g', o1, q1, q2, q3, q4⟩
            · rw [h0 k (hD.keys j _ hg k hk).1] at hb; cases hb
            · have := keys_one hD.toDrawBase q2 hg q3 hk
              subst this
              exact hLj q1
        · -- a store that is not carried out
          have hwants : σ.wants (gs[j]'hltj).g = some false := by
            rw [← hw]
            cases hgg : (gs[j]'hltj).g with
            | none => rfl
            | some p =>
              obtain ⟨t, b⟩ := p
              simp only [St.wants]
              rw [hseg.get hD hR hg hreach (by simp [GOp.looks, hgg])]
          have he' : effOf cl σ (gs[j]'hltj) = some ⟨.dead, []⟩ := by
            unfold effOf; rw [hwants]
            cases hop : (gs[j]'hltj).op <;> rw [hop] at hst <;> first | rfl | cases hst
          refine guardedA hS hr hG he' (fun k hk => ?_) (fun β' a' w' h' => next (j + 1) _ hltj ?_ β' a' w' h') Q
          · cases hop : (gs[j]'hltj).op <;> rw [hop] at hst hk <;> first | (cases hst; done) | (simp [AOp.keys] at hk; done)
          · have hbt := hseg.between hD hg hreach hback hLj (by simp [AOp.tied, hst])
            refine hseg.moreS hD hR h0 hmn hg hreach hback hLj hst (fun t => get_ins t) (fun t => by rw [hSj, St.get_put]) (fun k o1 hk => ⟨o1, by rw [look_ins]; simpa [lookH] using hk, o1.sim_refl⟩) (fun k o1 hk => ⟨o1, by rw [look_ins] at hk; simpa [lookH] using hk⟩) (fun k o1 o2 hk hk' => ?_) hset
            rw [look_ins] at hk
            rw [hSj, St.look_put] at hk'
            exact hseg.exact hD hR h0 hmn (by omega) hbt (by simpa [lookH] using hk) hk'
        · -- a store
          obtain ⟨k, o1, o1', hk, hsim, hSj, ⟨x, hx, hnx⟩, hall⟩ := store_step hst hb
          have hbt := hseg.between hD hg hreach hback hLj (by simp [AOp.tied, hst])
          have mem : ∀ t, Opd.tmp t ∈ (gs[j]'hltj).op.opds → t ∈ (gs[j]'hltj).looks := fun t hx => by
            simp only [GOp.looks, List.mem_append]
            exact .inr (by simp only [AOp.tmps, List.mem_filterMap]; exact ⟨_, hx, rfl⟩)
          have hev : ∀ x ∈ (gs[j]'hltj).op.opds, σ.ev x = (S j).ev x := fun x hx => by
            cases x with
            | tmp t => exact hseg.get hD hR hg hreach (mem t hx)
            | cst p => rfl
            | nils => rfl
          have hk2 : σ.look k = some o1 := by
            cases x with
            | tmp t =>
              have hs := hr.slots t
              have e3 : σ.get t = (S j).get t := hev _ hx
              rw [e3] at hs
              obtain ⟨o', ho'⟩ := hs.there hnx
              rw [ho', hseg.exact hD hR h0 hmn (by omega) hbt ho' hk]
            | cst p => simp [St.ev, SV.names] at hnx
            | nils => simp [St.ev, SV.names] at hnx
          have hb2 := hall σ hev hk2
          have hwants : σ.wants (gs[j]'hltj).g = some true := by
            rw [← hw]
            cases hgg : (gs[j]'hltj).g with
            | none => rfl
            | some p =>
              obtain ⟨t, b⟩ := p
              simp only [St.wants]
              rw [hseg.get hD hR hg hreach (by simp [GOp.looks, hgg])]
          have hB : (gs[j]'hltj).op.isB = true := by
            cases hop : (gs[j]'hltj).op <;> rw [hop] at hst <;> first | rfl | (cases hst; done)
          have hst2 : step cl false σ (gs[j]'hltj) = some ((σ.over k o1').put (gs[j]'hltj).d .dead) := by
            unfold step
            rw [hwants, hB]
            exact hb2
          refine guardedS hS hr hG hst2 (fun β' a' w' h' => next (j + 1) _ hltj ?_ β' a' w' h') Q
          refine hseg.moreS hD hR h0 hmn hg hreach hback hLj hst (fun t => by rw [St.get_put]; rfl) (fun t => by rw [hSj, St.get_put]; rfl) (fun k2 o2 h2 => ?_) (fun k2 o2 h2 => ?_) (fun k2 o2 o3 h2 h3 => ?_) hset
          · rw [St.look_put, St.look_over]
            by_cases e3 : k2 = k
            · subst e3; rw [hk2] at h2; cases h2; exact ⟨o1', by simp [hk2], hsim⟩
            · exact ⟨o2, by rw [if_neg e3, h2], o2.sim_refl⟩
          · rw [St.look_put] at h2; exact over_look h2
          · rw [St.look_put, St.look_over] at h2
            rw [hSj, St.look_put, St.look_over] at h3
            by_cases e3 : k2 = k
            · subst e3
              simp [hk2] at h2
              simp [hk] at h3
              rw [← h2, ← h3]
            · rw [if_neg e3] at h2 h3
              exact hseg.exact hD hR h0 hmn (by omega) hbt h2 h3
  have hk := (h.killAll ks).heap (w' := { w with drawn := w.drawn + 1 }) rfl (Quiet.drawn w _)
  have hrep : ∀ i, (Array.replicate ops.size false).getD i false = false := fun i => by simp only [Array.getD_eq_getD_getElem?, Array.getElem?_replicate]; split <;> rfl
  refine main ops.size _ a _ 0 β _ (by simp) ?_ (fun i o e hi => by rw [hrep] at hi; cases hi) (Nat.zero_le _) ?_ hk
  · refine Nat.le_trans (List.length_filter_le _ _) (by simp)
  · rw [← e1]
    have no : ∀ i, ¬ (Array.replicate ops.size false).getD i false = true := fun i q => by rw [hrep] at q; cases q
    exact ⟨fun i g _ _ => ⟨fun q => absurd q (no i), fun q => absurd q (by omega)⟩, fun t _ => rfl, fun i g t q => absurd q (no i), fun k o h1 => .inl ⟨o, h1⟩, fun k o0 h1 => ⟨o0, h1, o0.sim_refl⟩, fun i g k o0 q => absurd q (no i),
      fun k o o' h1 h2 => by rw [h1] at h2; exact Option.some.inj h2, fun i g k o q => absurd q (no i)⟩

end
end Go.Av
