/- A state laid in order. -/
import Derived.Test.YtkcilagjhieapaaBvY
set_option linter.unusedVariables false
set_option linter.unusedSimpArgs false
namespace Go.Av
section
variable {C : Ctx} {β : Key → Blk} {σ : St} {a : Act} {w : World}

def layObj (bx : List (Key × Bool)) (k : Key) (o : HObj) : HObj := match bx.find? fun p => decide (p.1 = k) with
  | some p => bif p.2 then o.tidy else o
  | none => o

theorem layObj_or (bx : List (Key × Bool)) (k : Key) (o : HObj) : layObj bx k o = o ∨ layObj bx k o = o.tidy := by
  unfold layObj
  split
  · rename_i p _
    cases p.2 with
    | true => exact .inr rfl
    | false => exact .inl rfl
  · exact .inl rfl

theorem layObj_sim (bx : List (Key × Bool)) (k : Key) (o : HObj) : o.sim (layObj bx k o) := by
  rcases layObj_or bx k o with e | e
  · rw [e]; exact o.sim_refl
  · rw [e]; cases o <;> simp [HObj.tidy, HObj.sim]

theorem lookH_filter (l : List (Key × HObj)) (bx : List (Key × Bool)) (k : Key) : lookH (l.filter fun q => !(bx.any fun p => decide (p.1 = q.1))) k = if (bx.find? fun p => decide (p.1 = k)).isSome then none else lookH l k := by
  have hany : ∀ k, (bx.any fun p => decide (p.1 = k)) = (bx.find? fun p => decide (p.1 = k)).isSome := fun k => by
    induction bx with
    | nil => rfl
    | cons p r ih =>
      simp only [List.any_cons, List.find?_cons]
      cases decide (p.1 = k) with
      | true => rfl
      | false => simpa using ih
  induction l with
  | nil => simp [lookH]
  | cons q r ih =>
    by_cases e : q.1 = k
    · subst e
      cases h : (bx.find? fun p => decide (p.1 = q.1)).isSome with
      | true =>
        have hf : (!(bx.any fun p => decide (p.1 = q.1))) = false := by rw [hany, h]; rfl
        rw [h] at ih
        rw [List.filter_cons, hf]
        exact ih
      | false =>
        have hf : (!(bx.any fun p => decide (p.1 = q.1))) = true := by rw [hany, h]; rfl
        rw [List.filter_cons, hf]
        simp [lookH]
    · have hskip : lookH (q :: r) k = lookH r k := by simp [lookH, e]
      rw [hskip, ← ih]
      simp only [List.filter_cons]
      split
      · simp [lookH, e]
      · rfl

theorem lookH_picked (σ : St) (bx : List (Key × Bool)) (k : Key) : lookH (bx.filterMap fun p => (σ.look p.1).map fun o => (p.1, bif p.2 then o.tidy else o)) k = match bx.find? fun p => decide (p.1 = k) with
    | some p => (σ.look k).map fun o => bif p.2 then o.tidy else o
    | none => none := by
  induction bx with
  | nil => rfl
  | cons p r ih =>
    simp only [List.filterMap_cons, List.find?_cons]
    by_cases e : p.1 = k
    · subst e
      simp only [decide_true]
      cases h : σ.look p.1 with
      | none =>
        simp only [Option.map_none]
        rw [ih]
        split
        · rw [h]; rfl
        · rfl
      | some o => simp [lookH]
    · simp only [e, decide_false]
      cases h : σ.look p.1 with
      | none => simp only [Option.map_none]; exact ih
      | some o => simp only [Option.map_some, lookH, if_neg e]; exact ih

theorem look_laid (sl : List (Nat × Bool)) (bx : List (Key × Bool)) (k : Key) : (σ.laid sl bx).look k = (σ.look k).map (layObj bx k) := by
  have h1 := lookH_picked σ bx k
  have h2 := lookH_filter σ.hp bx k
  unfold St.laid
  show lookH (_ ++ _) k = _
  rw [lookH_append, h1, h2]
  unfold layObj
  cases hf : bx.find? fun p => decide (p.1 = k) with
  | some p =>
    simp only [Option.isSome_some, if_true]
    cases σ.look k <;> rfl
  | none =>
    simp only [Option.isSome_none]
    show lookH σ.hp k = _
    cases hl : σ.look k with
    | none => exact hl
    | some o => exact hl

theorem St.get_laid (σ : St) (sl : List (Nat × Bool)) (bx : List (Key × Bool)) (t : Nat) : (σ.laid sl bx).get t = σ.get t ∨ (σ.laid sl bx).get t = (σ.get t).tidy ∨ (σ.laid sl bx).get t = .dead := by
  unfold St.laid
  simp only [St.get]
  induction sl with
  | nil => right; right; rfl
  | cons p r ih =>
    simp only [List.map_cons, getS]
    cases e : p.1 == t with
    | true =>
      have e := beq_iff_eq.1 e
      subst e
      rw [cond_true]
      cases p.2 with
      | true => right; left; rfl
      | false => left; rfl
    | false => rw [cond_false]; exact ih

theorem RR.laid (h : RR C β σ a w) (sl : List (Nat × Bool)) (bx : List (Key × Bool)) : RR C β (σ.laid sl bx) a w := by
  have hback : ∀ k o, (σ.laid sl bx).look k = some o → ∃ o2, σ.look k = some o2 ∧ o = layObj bx k o2 := fun k o ho => by
    rw [look_laid] at ho
    simp only [Option.map_eq_some_iff] at ho
    obtain ⟨o2, h1, h2⟩ := ho
    exact ⟨o2, h1, h2.symm⟩
  have hfor : ∀ k o, σ.look k = some o → ∃ o', (σ.laid sl bx).look k = some o' ∧ o.sim o' ∧ β k = β k := fun k o ho => ⟨_, by rw [look_laid, ho]; rfl, layObj_sim bx k o, rfl⟩
  have hok : ∀ b, okB C β σ.look w b → okB C β (σ.laid sl bx).look w b := fun b hb =>
    ⟨hb.1, fun k o ho => by obtain ⟨o2, h1, _⟩ := hback k o ho; exact hb.2.1 k o2 h1, hb.2.2⟩
  have mono : ∀ {x : SV} {v : Value}, SLies w (okB C β σ.look w) β σ.look x v → SLies w (okB C β (σ.laid sl bx).look w) β (σ.laid sl bx).look x v := fun hx => hx.mono (fun b _ off u hu => hu) hok hfor
  refine ⟨h.tsz, h.dfs, ?_, ?_, ?_, ?_, ?_, h.size, h.frame, h.quiet⟩
  · intro k k' o o' b h1 h2 e1 e2
    obtain ⟨_, g1, _⟩ := hback k o h1
    obtain ⟨_, g2, _⟩ := hback k' o' h2
    exact h.inj k k' _ _ b g1 g2 e1 e2
  · intro k o ho
    obtain ⟨o2, h1, rfl⟩ := hback k o ho
    have := h.objs k o2 h1
    have base : HLies w (okB C β (σ.laid sl bx).look w) β (σ.laid sl bx).look o2 (β k) := this.mono (fun b _ off u hu => hu) hok rfl (fun _ _ => rfl) (fun k' o' _ h' => hfor k' o' h')
    rcases layObj_or bx k o2 with e | e
    · rw [e]; exact base
    · rw [e]
      cases o2 with
      | row sz xs => exact base
      | map kk es => exact base
      | box cs =>
        obtain ⟨b, arr, T, e0, e1, e2, e3, e4⟩ := base
        refine ⟨b, arr, T, e0, e1, by simpa using e2, e3, fun j x u hx hu => ?_⟩
        simp only [List.getElem?_map, Option.map_eq_some_iff] at hx
        obtain ⟨y, hy, rfl⟩ := hx
        exact tidy_lies (e4 j y u hy hu)
  · intro k o b ho hx
    obtain ⟨o2, h1, _⟩ := hback k o ho
    exact h.lo k o2 b h1 hx
  · intro i o ho
    obtain ⟨o2, h1, rfl⟩ := hback _ o ho
    obtain ⟨o0, q1, q2, q3⟩ := h.ext2 i o2 h1
    exact ⟨o0, q1, HObj.sim_trans q2 (layObj_sim bx _ o2), q3⟩
  · intro t
    rcases σ.get_laid sl bx t with e | e | e
    · rw [e]; exact mono (h.slots t)
    · rw [e]; exact tidy_lies (mono (h.slots t))
    · rw [e]; exact .dead _

/-! ### rows without memory get names -/

theorem RR.newN (h : RR C β σ a w) (k : Key) (hk : ∀ i, k ≠ .ext i) (hn : σ.look k = none) (sz : Nat) : ∃ β', β' k = ⟨none, 0⟩ ∧ (∀ k', k' ≠ k → β' k' = β k') ∧ RR C β' (σ.insAll [(k, .row sz [])]) a w := by
  refine ⟨fun k' => if k' = k then ⟨none, 0⟩ else β k', by simp, fun k' hne => by simp [hne], ?_⟩
  generalize hβ : (fun k' => if k' = k then (⟨none, 0⟩ : Blk) else β k') = β'
  have b1 : ∀ k', k' ≠ k → β' k' = β k' := fun k' hne => by rw [← hβ]; simp [hne]
  have b2 : β' k = ⟨none, 0⟩ := by rw [← hβ]; simp
  have hl : ∀ k', k' ≠ k → (σ.insAll [(k, .row sz [])]).look k' = σ.look k' := fun k' hne => by rw [St.look_ins, if_neg (fun e => hne (Eq.symm e))]
  have hlk : (σ.insAll [(k, .row sz [])]).look k = some (.row sz []) := by rw [St.look_ins]; simp
  have hne : ∀ k' o', σ.look k' = some o' → k' ≠ k := fun k' o' h' e => by subst e; rw [hn] at h'; cases h'
  have hback : ∀ k' o' b, (σ.insAll [(k, .row sz [])]).look k' = some o' → (β' k').b = some b → σ.look k' = some o' ∧ (β k').b = some b := fun k' o' b h1 h2 => by
    by_cases e : k' = k
    · subst e; rw [b2] at h2; cases h2
    · rw [hl k' e] at h1; rw [b1 k' e] at h2; exact ⟨h1, h2⟩
  have hok : ∀ b, okB C β σ.look w b → okB C β' (σ.insAll [(k, .row sz [])]).look w b := by
    intro b hb
    exact ⟨hb.1, fun k' o' h' e => by obtain ⟨q1, q2⟩ := hback k' o' b h' e; exact hb.2.1 k' o' q1 q2, hb.2.2⟩
  have hfor : ∀ k2 o2, σ.look k2 = some o2 → ∃ o', (σ.insAll [(k, .row sz [])]).look k2 = some o' ∧ o2.sim o' ∧ β' k2 = β k2 := fun k2 o2 h2 => ⟨o2, by rw [hl k2 (hne k2 o2 h2)]; exact h2, o2.sim_refl, b1 k2 (hne k2 o2 h2)⟩
  refine ⟨h.tsz, h.dfs, ?_, ?_, ?_, ?_, ?_, h.size, h.frame, h.quiet⟩
  · intro k1 k2 o1 o2 b h1 h2 e1 e2
    obtain ⟨q1, q2⟩ := hback k1 o1 b h1 e1
    obtain ⟨q3, q4⟩ := hback k2 o2 b h2 e2
    exact h.inj k1 k2 o1 o2 b q1 q3 q2 q4
  · intro k' o' h'
    by_cases e : k' = k
    · subst e; rw [hlk] at h'; cases h'; rw [b2]; exact .inl ⟨rfl, rfl, rfl⟩
    · rw [hl k' e] at h'
      exact (h.objs k' o' h').mono (fun b _ off u hu => hu) hok (b1 k' e) (fun _ _ => rfl) (fun k2 o2 _ h2 => hfor k2 o2 h2)
  · intro k' o' b h' hx
    obtain ⟨q1, q2⟩ := hback k' o' b h' hx
    exact h.lo k' o' b q1 q2
  · intro i o' h'
    have e : Key.ext i ≠ k := fun e => hk i e.symm
    rw [hl _ e] at h'; rw [b1 _ e]; exact h.ext2 i o' h'
  · intro t
    exact (h.slots t).mono (fun b _ off u hu => hu) hok hfor

def Up.key : Up → Key
  | .slot _ k _ => k
  | .cell _ _ k _ => k

theorem RR.up1 (h : RR C β σ a w) (u : Up) (hk : ∀ i, u.key ≠ .ext i) : ∃ β', RR C β' (σ.up1 u) a w := by
  cases u with
  | slot t k sz =>
    simp only [St.up1]
    split
    · rename_i ht hn
      obtain ⟨β', e1, e2, h'⟩ := h.newN k hk hn sz
      refine ⟨β', h'.slots_of rfl (fun t' => ?_)⟩
      show SLies w _ β' _ (getS ((t, .own k) :: σ.sl) t') _
      rw [getS_put]
      by_cases e : t = t'
      · subst e
        rw [if_pos rfl]
        have := h.slots t
        rw [ht] at this
        generalize a.tmps.getD t undef = v at this
        cases this
        exact SLies.ownN k sz _ (by rw [St.look_ins]; simp) (by rw [e1])
      · rw [if_neg e]; exact h'.slots t'
    · exact ⟨β, h⟩
  | cell kb i k sz =>
    simp only [St.up1]
    split
    · rename_i cs hkb hn
      split
      · rename_i hc
        obtain ⟨β', e1, e2, h'⟩ := h.newN k hk hn sz
        have hne : kb ≠ k := fun e => by subst e; rw [hkb] at hn; cases hn
        have hkb' : (σ.insAll [(k, .row sz [])]).look kb = some (.box cs) := by rw [St.look_ins, if_neg (fun e => hne e.symm)]; exact hkb
        obtain ⟨b, arr, T, g0, g1, g2, g3, g4⟩ := h'.objs kb _ hkb'
        have h2 := h'.over hkb' (o' := .box (cs.set i (.own k))) trivial g0 (w' := w) rfl (fun _ _ => rfl) (Quiet.refl w) (by
          refine ⟨b, arr, T, g0, g1, by simpa using g2, g3, fun j x u hx hu => ?_⟩
          have hmono : ∀ {x : SV} {v : Value}, SLies w (okB C β' (σ.insAll [(k, .row sz [])]).look w) β' (σ.insAll [(k, .row sz [])]).look x v → SLies w (okB C β' ((σ.insAll [(k, .row sz [])]).over kb (.box (cs.set i (.own k)))).look w) β' ((σ.insAll [(k, .row sz [])]).over kb (.box (cs.set i (.own k)))).look x v := fun hx =>
            over_mono' (o' := .box (cs.set i (.own k))) hkb' trivial g0 rfl (fun _ _ => rfl) hx
          by_cases e : i = j
          · subst e
            have hil := (List.getElem?_eq_some_iff.1 hc).1
            rw [List.getElem?_set_self hil] at hx
            simp at hx; subst hx
            have := g4 i _ u hc hu
            cases this
            refine SLies.ownN k sz _ ?_ (by rw [e1])
            rw [St.look_over, if_neg (fun e => hne e.symm), St.look_ins]; simp
          · rw [List.getElem?_set_ne e] at hx
            exact hmono (g4 j x u hx hu))
        refine ⟨β', h2.congr (fun t => rfl) (fun k' => ?_)⟩
        show lookH ((k, .row sz []) :: (σ.over kb (.box (cs.set i (.own k)))).hp) k' = _
        show (if k = k' then some (HObj.row sz []) else (σ.over kb (.box (cs.set i (.own k)))).look k') = _
        rw [St.look_over, St.look_over, St.look_ins, St.look_ins]
        by_cases q1 : k = k'
        · subst q1
          simp [fun e => hne (Eq.symm e)]
          intro e; exact absurd e.symm hne
        · by_cases q2 : k' = kb
          · subst q2; simp [q1]
          · simp [q1, q2]
      · exact ⟨β, h⟩
    · exact ⟨β, h⟩

theorem RR.upAll : ∀ (us : List Up) {β : Key → Blk} {σ : St}, RR C β σ a w → (∀ u ∈ us, ∀ i, u.key ≠ .ext i) → ∃ β', RR C β' (σ.upAll us) a w
  | [], β, σ, h, _ => ⟨β, h⟩
  | u :: us, β, σ, h, hk => by
    obtain ⟨β', h'⟩ := h.up1 u (hk u (by simp))
    exact RR.upAll us h' (fun u' hu => hk u' (by simp [hu]))

theorem RR.tidy (h : RR C β σ a w) (fz : List Key) (sl : List (Nat × Bool)) (bx : List (Key × Bool)) (dead : List Key) (up : List Up) (hu : ∀ u ∈ up, ∀ i, u.key ≠ .ext i) : ∃ β', RR C β' (σ.tidy fz sl bx dead up) a w :=
  (RR.upAll up ((h.freezeAll fz).killAll dead) hu).imp fun _ h' => h'.laid sl bx

end
end Go.Av
