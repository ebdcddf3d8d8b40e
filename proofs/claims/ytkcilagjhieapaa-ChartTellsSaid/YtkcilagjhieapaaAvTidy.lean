/- A state laid in order. -/
import Derived.Test.YtkcilagjhieapaaAvS
set_option linter.unusedVariables false
set_option linter.unusedSimpArgs false
namespace Go.Av
section
variable {C : Ctx} {β : Key → Blk} {σ : St} {a : Act} {w : World}

theorem tidy_lies {ok : Nat → Prop} {lk : Key → Option HObj} {x : SV} {v : Value} (hx : SLies w ok β lk x v) : SLies w ok β lk x.tidy v := by
  unfold SV.tidy
  split
  · rename_i p hp; exact .pv _ _ (clean_lies hx p hp)
  · exact hx

def layObj (bx : List (Key × Bool)) (k : Key) (o : HObj) : HObj := match bx.find? fun p => decide (p.1 = k) with
  | some p => bif p.2 then o.tidy else o
  | none => o

theorem layObj_or (bx : List (Key × Bool)) (k : Key) (o : HObj) : layObj bx k o = o ∨ layObj bx k o = o.tidy := by
  unfold layObj
  split
  · rename_i p _
    cases p.2 with
    | true => exact .inr rfl
    | false => exact .inl rfl
  · exact .inl rfl

theorem layObj_sim (bx : List (Key × Bool)) (k : Key) (o : HObj) : o.sim (layObj bx k o) := by
  rcases layObj_or bx k o with e | e
  · rw [e]; exact o.sim_refl
  · rw [e]; cases o <;> simp [HObj.tidy, HObj.sim]

theorem lookH_filter (l : List (Key × HObj)) (bx : List (Key × Bool)) (k : Key) : lookH (l.filter fun q => !(bx.any fun p => decide (p.1 = q.1))) k = if (bx.find? fun p => decide (p.1 = k)).isSome then none else lookH l k := by
  have hany : ∀ k, (bx.any fun p => decide (p.1 = k)) = (bx.find? fun p => decide (p.1 = k)).isSome := fun k => by
    induction bx with
    | nil => rfl
    | cons p r ih =>
      simp only [List.any_cons, List.find?_cons]
      cases decide (p.1 = k) with
      | true => rfl
      | false => simpa using ih
  induction l with
  | nil => simp [lookH]
  | cons q r ih =>
    by_cases e : q.1 = k
    · subst e
      cases h : (bx.find? fun p => decide (p.1 = q.1)).isSome with
      | true =>
        have hf : (!(bx.any fun p => decide (p.1 = q.1))) = false := by rw [hany, h]; rfl
        rw [h] at ih
        rw [List.filter_cons, hf]
        exact ih
      | false =>
        have hf : (!(bx.any fun p => decide (p.1 = q.1))) = true := by rw [hany, h]; rfl
        rw [List.filter_cons, hf]
        simp [lookH]
    · have hskip : lookH (q :: r) k = lookH r k := by simp [lookH, e]
      rw [hskip, ← ih]
      simp only [List.filter_cons]
      split
      · simp [lookH, e]
      · rfl

theorem lookH_picked (σ : St) (bx : List (Key × Bool)) (k : Key) : lookH (bx.filterMap fun p => (σ.look p.1).map fun o => (p.1, bif p.2 then o.tidy else o)) k = match bx.find? fun p => decide (p.1 = k) with
    | some p => (σ.look k).map fun o => bif p.2 then o.tidy else o
    | none => none := by
  induction bx with
  | nil => rfl
  | cons p r ih =>
    simp only [List.filterMap_cons, List.find?_cons]
    by_cases e : p.1 = k
    · subst e
      simp only [decide_true]
      cases h : σ.look p.1 with
      | none =>
        simp only [Option.map_none]
        rw [ih]
        split
        · rw [h]; rfl
        · rfl
      | some o => simp [lookH]
    · simp only [e, decide_false]
      cases h : σ.look p.1 with
      | none => simp only [Option.map_none]; exact ih
      | some o => simp only [Option.map_some, lookH, if_neg e]; exact ih

theorem look_laid (sl : List (Nat × Bool)) (bx : List (Key × Bool)) (k : Key) : (σ.laid sl bx).look k = (σ.look k).map (layObj bx k) := by
  have h1 := lookH_picked σ bx k
  have h2 := lookH_filter σ.hp bx k
  unfold St.laid
  show lookH (_ ++ _) k = _
  rw [lookH_append, h1, h2]
  unfold layObj
  cases hf : bx.find? fun p => decide (p.1 = k) with
  | some p =>
    simp only [Option.isSome_some, if_true]
    cases σ.look k <;> rfl
  | none =>
    simp only [Option.isSome_none]
    show lookH σ.hp k = _
    cases hl : σ.look k with
    | none => exact hl
    | some o => exact hl

theorem St.get_laid (σ : St) (sl : List (Nat × Bool)) (bx : List (Key × Bool)) (t : Nat) : (σ.laid sl bx).get t = σ.get t ∨ (σ.laid sl bx).get t = (σ.get t).tidy ∨ (σ.laid sl bx).get t = .dead := by
  unfold St.laid
  simp only [St.get]
  induction sl with
  | nil => right; right; rfl
  | cons p r ih =>
    simp only [List.map_cons, getS]
    cases e : p.1 == t with
    | true =>
      have e := beq_iff_eq.1 e
      subst e
      rw [cond_true]
      cases p.2 with
      | true => right; left; rfl
      | false => left; rfl
    | false => rw [cond_false]; exact ih

theorem RR.laid (h : RR C β σ a w) (sl : List (Nat × Bool)) (bx : List (Key × Bool)) : RR C β (σ.laid sl bx) a w := by
  have hback : ∀ k o, (σ.laid sl bx).look k = some o → ∃ o2, σ.look k = some o2 ∧ o = layObj bx k o2 := fun k o ho => by
    rw [look_laid] at ho
    simp only [Option.map_eq_some_iff] at ho
    obtain ⟨o2, h1, h2⟩ := ho
    exact ⟨o2, h1, h2.symm⟩
  have hfor : ∀ k o, σ.look k = some o → ∃ o', (σ.laid sl bx).look k = some o' ∧ o.sim o' ∧ β k = β k := fun k o ho => ⟨_, by rw [look_laid, ho]; rfl, layObj_sim bx k o, rfl⟩
  have hok : ∀ b, okB C β σ.look w b → okB C β (σ.laid sl bx).look w b := fun b hb =>
    ⟨hb.1, fun k o ho => by obtain ⟨o2, h1, _⟩ := hback k o ho; exact hb.2.1 k o2 h1, hb.2.2⟩
  have mono : ∀ {x : SV} {v : Value}, SLies w (okB C β σ.look w) β σ.look x v → SLies w (okB C β (σ.laid sl bx).look w) β (σ.laid sl bx).look x v := fun hx => hx.mono (fun b _ off u hu => hu) hok hfor
  refine ⟨h.tsz, h.dfs, ?_, ?_, ?_, ?_, ?_, ?_, h.size, h.frame, h.quiet⟩
  · intro k k' o o' h1 h2 e
    obtain ⟨_, g1, _⟩ := hback k o h1
    obtain ⟨_, g2, _⟩ := hback k' o' h2
    exact h.inj k k' _ _ g1 g2 e
  · intro k o ho
    obtain ⟨o2, h1, rfl⟩ := hback k o ho
    have := h.objs k o2 h1
    have base : HLies w (okB C β (σ.laid sl bx).look w) β (σ.laid sl bx).look o2 (β k) := this.mono (fun b _ off u hu => hu) hok rfl rfl (fun k' o' _ h' => hfor k' o' h')
    rcases layObj_or bx k o2 with e | e
    · rw [e]; exact base
    · rw [e]
      cases o2 with
      | row sz xs => exact base
      | box cs =>
        obtain ⟨arr, T, e1, e2, e3, e4⟩ := base
        refine ⟨arr, T, e1, by simpa using e2, e3, fun j x u hx hu => ?_⟩
        simp only [List.getElem?_map, Option.map_eq_some_iff] at hx
        obtain ⟨y, hy, rfl⟩ := hx
        exact tidy_lies (e4 j y u hy hu)
  · intro k o ho hx
    obtain ⟨o2, h1, _⟩ := hback k o ho
    exact h.lo k o2 h1 hx
  · intro i hi
    obtain ⟨cs, hcs⟩ := h.ext1 i hi
    obtain ⟨o', h1, h2, _⟩ := hfor _ _ hcs
    cases o' with
    | box cs' => exact ⟨cs', h1⟩
    | row _ _ => simp [HObj.sim] at h2
  · intro i o ho
    obtain ⟨o2, h1, _⟩ := hback _ o ho
    exact h.ext2 i o2 h1
  · intro t
    rcases σ.get_laid sl bx t with e | e | e
    · rw [e]; exact mono (h.slots t)
    · rw [e]; exact tidy_lies (mono (h.slots t))
    · rw [e]; exact .dead _

theorem RR.tidy (h : RR C β σ a w) (fz : List Key) (sl : List (Nat × Bool)) (bx : List (Key × Bool)) (dead : List Key) (hd : ∀ k ∈ dead, ∀ i, k ≠ .ext i) : RR C β (σ.tidy fz sl bx dead) a w :=
  ((h.freezeAll fz).laid sl bx).killAll dead hd

end
end Go.Av
