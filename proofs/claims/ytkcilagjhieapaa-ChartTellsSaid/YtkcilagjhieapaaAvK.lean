/- Code. -/
import Derived.Test.YtkcilagjhieapaaAvTidy
set_option linter.unusedVariables false
set_option linter.unusedSimpArgs false
namespace Go.Av

def agreeCode (P : Program) (nt : Nat) : Code → AC → Bool
  | _, .stuck => true
  | c, .keep _ _ _ dead x => dead.all (fun | .ext _ => false | _ => true) && agreeCode P nt c x
  | .block id c, .pass id' x => id == id' && !x.exits id && agreeCode P nt c x
  | .skip, .skip => true
  | .region _ ops false, .ops l => all2 (agreeG P nt ops) ops.toList l
  | .region _ ops true, .draw ks l => all2 (agreeG P nt ops) ops.toList l && (drawOK ops.toList l ks || drawOK2 ops.toList l ks)
  | .seq x y, .seq x' y' => agreeCode P nt x x' && agreeCode P nt y y'
  | .cond c x y, .cond c' x' y' => agreeO c c' && agreeCode P nt x x' && agreeCode P nt y y'
  | .block id x, .block id' x' => id == id' && agreeCode P nt x x'
  | .loop x, .loop _ ks x' => ks.all (fun | .ext _ => false | _ => true) && agreeCode P nt x x'
  | .exit id, .exit id' => id == id'
  | .ret, .ret => true
  | _, _ => false

def Ex.to : Ex → Exit
  | .norm => .normal
  | .exit id => .exit id
  | .ret => .ret

/-- Within a loop. -/
def Lp (P : Program) (c : Code) (Q : Exit → Act → World → Prop) (a : Act) (w : World) : Prop :=
  ∀ (b : Frame) (k : List Item) (cs : List Frame), ∃ e a' w', Q e a' w' ∧ Arrives P (lone (b.at a (.code c :: .inLoop c :: k)) cs w) b k cs e a' w'

theorem lp_round {P : Program} {c : Code} {Q : Exit → Act → World → Prop} {a : Act} {w : World} (h : c.wp P (Exit.then (Lp P c Q) Q) a w) : Lp P c Q a w := by
  intro b k cs
  obtain ⟨e, a₁, w₁, hq, harr⟩ := h b (.inLoop c :: k) cs
  cases e with
  | normal =>
    obtain ⟨e₂, a₂, w₂, hq₂, harr₂⟩ := hq b k cs
    exact ⟨e₂, a₂, w₂, hq₂, .of_steps (Steps.trans harr (.one step_inLoop)) harr₂⟩
  | exit id => exact ⟨_, a₁, w₁, hq, .pass (x := .inLoop c) rfl (fun _ _ => .inl (by simp)) harr⟩
  | goto l => exact ⟨_, a₁, w₁, hq, .pass (x := .inLoop c) rfl (fun _ _ => .inl (by simp)) harr⟩
  | ret => exact ⟨_, a₁, w₁, hq, .pass (x := .inLoop c) rfl (fun _ _ => .inl (by simp)) harr⟩
  | panic ch => exact ⟨_, a₁, w₁, hq, .pass (x := .inLoop c) rfl (fun _ _ => .inl (by simp)) harr⟩
  | outgrown => exact ⟨_, a₁, w₁, hq, .pass (x := .inLoop c) rfl (fun _ _ => .inl (by simp)) harr⟩

theorem wp_lp {P : Program} {c : Code} {Q : Exit → Act → World → Prop} {a : Act} {w : World} (h : Lp P c Q a w) : (Code.loop c).wp P Q a w := by
  intro b k cs
  obtain ⟨e, a', w', hq, harr⟩ := h b k cs
  exact ⟨e, a', w', hq, .of_steps (.one step_loop) harr⟩

section
variable {P : Program} {C : Ctx} {cl : Callee}

theorem exec_exits {id : Nat} : ∀ (n : Nat) (ac : AC) (σ σ' : St), exec cl n ac σ = some (.exit id, σ') → ac.exits id = true := by
  intro n
  induction n with
  | zero => intro ac σ σ' h; cases h
  | succ n ih =>
    intro ac σ σ' h
    cases ac with
    | skip => simp [exec] at h
    | ops l => simp only [exec] at h; split at h <;> simp at h
    | draw ks l => simp only [exec] at h; split at h <;> simp at h
    | exit j => simp only [exec, Option.some.injEq, Prod.mk.injEq, Ex.exit.injEq] at h; simp [AC.exits, h.1]
    | ret => simp [exec] at h
    | seq x y =>
      simp only [exec] at h
      simp only [AC.exits, Bool.or_eq_true]
      split at h
      · exact .inr (ih _ _ _ h)
      · exact .inl (ih _ _ _ h)
    | cond c x y =>
      simp only [exec] at h
      simp only [AC.exits, Bool.or_eq_true]
      split at h
      · rename_i t _
        cases t with
        | true => exact .inl (ih _ _ _ h)
        | false => exact .inr (ih _ _ _ h)
      · cases h
    | block j x =>
      simp only [exec] at h
      simp only [AC.exits]
      split at h
      · rename_i i σ1 h1
        split at h
        · simp at h
        · simp only [Option.some.injEq, Prod.mk.injEq, Ex.exit.injEq] at h
          obtain ⟨rfl, rfl⟩ := h
          exact ih _ _ _ h1
      · exact ih _ _ _ h
    | loop keep ks x =>
      simp only [exec] at h
      split at h
      · exact ih (.loop keep ks x) _ _ h
      · exact ih x _ _ h
    | keep fz sl bx dead x => simp only [exec] at h; exact ih x _ _ h
    | pass j x => simp only [exec] at h; exact ih x _ _ h
    | stuck => simp [exec] at h

theorem exec_sound (hm : P.follows .mixedOrders = true) (hS : Sound P cl) : ∀ (n : Nat) (c : Code) (ac : AC) (β : Key → Blk) (σ σ' : St) (ex : Ex) (a : Act) (w : World) (Q : Exit → Act → World → Prop), agreeCode P C.nt c ac = true → RR C β σ a w → exec cl n ac σ = some (ex, σ') →
    (∀ β' a' w', RR C β' σ' a' w' → Q ex.to a' w') → c.wp P Q a w ∧ ∀ c' keep ks x, c = .loop c' → ac = .loop keep ks x → Lp P c' Q a w := by
  intro n
  induction n with
  | zero => intro c ac β σ σ' ex a w Q _ _ he; cases he
  | succ n ih =>
    intro c ac β σ σ' ex a w Q hag h he hQ
    unfold agreeCode at hag
    split at hag
    · simp [exec] at he
    · -- keep
      simp only [Bool.and_eq_true] at hag
      rename_i c1 fz sl bx dead ac1
      have hks : ∀ k ∈ dead, ∀ i, k ≠ .ext i := fun k hk i e => by subst e; have := List.all_eq_true.1 hag.1 _ hk; simp at this
      simp only [exec] at he
      exact ⟨(ih _ _ β _ σ' ex a w Q hag.2 (h.tidy fz sl bx dead hks) he hQ).1, by intro _ _ _ _ _ e; cases e⟩
    · -- pass
      simp only [Bool.and_eq_true, beq_iff_eq, Bool.not_eq_true'] at hag
      obtain ⟨⟨rfl, hno⟩, hag⟩ := hag
      simp only [exec] at he
      refine ⟨wp_block (ih _ _ β σ σ' ex a w _ hag h he (fun β' a' w' h' => ?_)).1, by intro _ _ _ _ e; cases e⟩
      have := hQ β' a' w' h'
      cases ex with
      | norm => exact this
      | ret => exact this
      | exit j =>
        simp only [Ex.to, Exit.inBlock]
        split
        · rename_i hj; subst hj
          rw [exec_exits _ _ _ _ he] at hno; cases hno
        · exact this
    · -- skip
      simp only [exec, Option.some.injEq, Prod.mk.injEq] at he
      obtain ⟨rfl, rfl⟩ := he
      exact ⟨wp_skip (hQ _ _ _ h), by intro _ _ _ _ e; cases e⟩
    · -- region
      simp only [exec] at he
      split at he
      · rename_i σ1 hr
        simp only [Option.some.injEq, Prod.mk.injEq] at he
        obtain ⟨rfl, rfl⟩ := he
        exact ⟨wp_region_list (sound_ops hS h hag hr hQ), by intro _ _ _ _ e; cases e⟩
      · cases he
    · -- drawn region
      simp only [exec] at he
      simp only [Bool.and_eq_true] at hag
      split at he
      · rename_i σ1 hr
        simp only [Option.some.injEq, Prod.mk.injEq] at he
        obtain ⟨rfl, rfl⟩ := he
        refine ⟨?_, by intro _ _ _ _ e; cases e⟩
        rcases Bool.or_eq_true_iff.1 hag.2 with h2 | h2
        · exact sound_draw hm hS h2 hag.1 h hr hQ
        · exact sound_draw2 hm hS h2 hag.1 h hr hQ
      · cases he
    · -- seq
      simp only [Bool.and_eq_true] at hag
      refine ⟨wp_seq ?_, by intro _ _ _ _ e; cases e⟩
      simp only [exec] at he
      split at he
      · rename_i σ1 h1
        exact (ih _ _ β σ σ1 .norm a w _ hag.1 h h1 (fun β' a' w' h' => (ih _ _ β' σ1 σ' ex a' w' Q hag.2 h' he hQ).1)).1
      · rename_i r hne
        have hx : ex ≠ .norm := fun e => by subst e; exact hne _ he
        refine (ih _ _ β σ σ' ex a w _ hag.1 h he (fun β' a' w' h' => ?_)).1
        have := hQ β' a' w' h'
        cases ex with
        | norm => exact absurd rfl hx
        | exit id => exact this
        | ret => exact this
    · -- cond
      simp only [Bool.and_eq_true] at hag
      simp only [exec] at he
      split at he
      · rename_i t ht
        have hs := h.ev hag.1.1
        rw [ht] at hs
        refine ⟨wp_cond (lies_bool (slies_pv hs)) ?_, by intro _ _ _ _ e; cases e⟩
        cases t with
        | true => simp only [cond_true] at he; exact (ih _ _ β σ σ' ex a w Q hag.1.2 h he hQ).1
        | false => simp only [cond_false] at he; exact (ih _ _ β σ σ' ex a w Q hag.2 h he hQ).1
      · cases he
    · -- block
      simp only [Bool.and_eq_true, beq_iff_eq] at hag
      obtain ⟨rfl, hag⟩ := hag
      refine ⟨wp_block ?_, by intro _ _ _ _ e; cases e⟩
      simp only [exec] at he
      split at he
      · rename_i j σ1 h1
        refine (ih _ _ β σ σ1 (.exit j) a w _ hag h h1 (fun β' a' w' h' => ?_)).1
        simp only [Ex.to, Exit.inBlock]
        split at he
        · rename_i hj
          simp only [Option.some.injEq, Prod.mk.injEq] at he
          obtain ⟨rfl, rfl⟩ := he
          rw [if_pos hj]; exact hQ _ _ _ h'
        · rename_i hj
          simp only [Option.some.injEq, Prod.mk.injEq] at he
          obtain ⟨rfl, rfl⟩ := he
          rw [if_neg hj]; exact hQ _ _ _ h'
      · rename_i r hne
        refine (ih _ _ β σ σ' ex a w _ hag h he (fun β' a' w' h' => ?_)).1
        have := hQ β' a' w' h'
        cases ex with
        | norm => exact this
        | exit id => exact absurd he (hne _ _)
        | ret => exact this
    · -- loop
      rename_i c1 keep ks ac1
      simp only [Bool.and_eq_true] at hag
      have hks : ∀ k ∈ ks, ∀ i, k ≠ .ext i := fun k hk i e => by subst e; have := List.all_eq_true.1 hag.1 _ hk; simp at this
      simp only [exec] at he
      have hl : Lp P c1 Q a w := by
        refine lp_round ?_
        split at he
        · rename_i σ1 h1
          exact (ih _ _ β _ σ1 .norm a w _ hag.2 ((h.forget keep).killAll ks hks) h1 (fun β' a' w' h' => (ih (.loop c1) (.loop keep ks ac1) β' σ1 σ' ex a' w' Q (by unfold agreeCode; simpa only [Bool.and_eq_true] using hag) h' he hQ).2 c1 keep ks ac1 rfl rfl)).1
        · rename_i r hne
          have hx : ex ≠ .norm := fun e => by subst e; exact hne _ he
          refine (ih _ _ β _ σ' ex a w _ hag.2 ((h.forget keep).killAll ks hks) he (fun β' a' w' h' => ?_)).1
          have := hQ β' a' w' h'
          cases ex with
          | norm => exact absurd rfl hx
          | exit id => exact this
          | ret => exact this
      refine ⟨wp_lp hl, fun c' keep' ks' x e1 e2 => ?_⟩
      cases e1; exact hl
    · -- exit
      simp only [beq_iff_eq] at hag
      subst hag
      simp only [exec, Option.some.injEq, Prod.mk.injEq] at he
      obtain ⟨rfl, rfl⟩ := he
      exact ⟨wp_exit (hQ _ _ _ h), by intro _ _ _ _ e; cases e⟩
    · -- ret
      simp only [exec, Option.some.injEq, Prod.mk.injEq] at he
      obtain ⟨rfl, rfl⟩ := he
      exact ⟨wp_ret (hQ _ _ _ h), by intro _ _ _ _ e; cases e⟩
    · cases hag

end
end Go.Av
