/- Code, told by a relation: each region by a callee of its own. -/
import Derived.Test.YtkcilagjhieapaaBvM
import Derived.KernelRfl
set_option linter.unusedVariables false
set_option linter.unusedSimpArgs false
namespace Go.Av

theorem sound_opsR {P : Program} {C : Ctx} {ro : Option Nat} {n : Nat} {ops : Array Oper} {Q : Exit → Act → World → Prop} {l' : List GOp} {σ σ' : St} (hr : RunR P l' σ σ') : ∀ {l : List Oper} {β : Key → Blk} {a : Act} {w : World}, RR C β σ a w → all2 (agreeG P C.nt ops) l l' = true →
    (∀ β' a' w', RR C β' σ' a' w' → Q .normal a' w') → wpListIn (fr ro) n P ops Q l a w := by
  induction hr with
  | nil σ =>
    intro l β a w h hag hQ
    cases l with
    | nil => exact wpListIn_nil (hQ β a w h)
    | cons o l => simp [all2] at hag
  | @cons cl g os σ σ1 σ' hS hs _ ih =>
    intro l β a w h hag hQ
    cases l with
    | nil => simp [all2] at hag
    | cons o l =>
      simp only [all2, Bool.and_eq_true] at hag
      refine wpListIn_step (fun K hK => ?_)
      refine guardedIn_of (fun hw c hc => ?_) (guardedS hS h hag.1 hs (fun β' a' w' h' => hK _ _ (ih h' hag.2 hQ)) Q)
      obtain ⟨h1, _, _, h4⟩ := agreeG_spec hag.1
      rw [hc] at h1
      have hst := agree_defer h1
      unfold step at hs
      cases hwt : σ.wants g.g with
      | none => rw [hwt] at hs; cases hs
      | some b =>
        rw [wants_wanted h h4 hwt] at hw
        subst hw
        simp [hwt, hst, AOp.isB, stepA, aeff] at hs

inductive Ev (P : Program) : AC → St → Ex → St → Prop
  | skip (σ : St) : Ev P .skip σ .norm σ
  | ops {l : List GOp} {σ σ' : St} (h : RunR P l σ σ') : Ev P (.ops l) σ .norm σ'
  | draw {cl : Callee} {ks : List Key} {l : List GOp} {σ σ' : St} (hS : Sound P cl) (h : runOps cl true l (σ.killAll ks) = some σ') : Ev P (.draw ks l) σ .norm σ'
  | drawZ {cl : Callee} {ks : List Key} {l l2 : List GOp} {σ σ' σ2 : St} (hS : Sound P cl) (hI : ∀ g ∈ l, ∀ f sz by' x i y, g.op = .ins f sz by' x i y → InsC P f sz by') (h : runOps cl true l (σ.killAll ks) = some σ') (hz : zOK σ' l = true) (h2 : RunR P l2 (σ'.killAll (zkeys σ' l)) σ2) : Ev P (.drawZ ks l l2) σ .norm σ2
  | seq {x y : AC} {σ σ1 σ' : St} {ex : Ex} (h1 : Ev P x σ .norm σ1) (h2 : Ev P y σ1 ex σ') : Ev P (.seq x y) σ ex σ'
  | seq_out {x y : AC} {σ σ' : St} {ex : Ex} (h1 : Ev P x σ ex σ') (hne : ex ≠ .norm) : Ev P (.seq x y) σ ex σ'
  | cond {c : Opd} {x y : AC} {σ σ' : St} {ex : Ex} {t : Bool} (hc : σ.ev c = .pv (.bool t)) (h : Ev P (bif t then x else y) σ ex σ') : Ev P (.cond c x y) σ ex σ'
  | block {id : Nat} {x : AC} {σ σ' : St} (h : Ev P x σ .norm σ') : Ev P (.block id x) σ .norm σ'
  | block_exit {id : Nat} {x : AC} {σ σ' : St} (h : Ev P x σ (.exit id) σ') : Ev P (.block id x) σ .norm σ'
  | block_out {id j : Nat} {x : AC} {σ σ' : St} (h : Ev P x σ (.exit j) σ') (hne : j ≠ id) : Ev P (.block id x) σ (.exit j) σ'
  | block_ret {id : Nat} {x : AC} {σ σ' : St} (h : Ev P x σ .ret σ') : Ev P (.block id x) σ .ret σ'
  | loop {keep : List Nat} {ks : List Key} {x : AC} {σ σ1 σ' : St} {ex : Ex} (h1 : Ev P x ((σ.forget keep).killAll ks) .norm σ1) (h2 : Ev P (.loop keep ks x) σ1 ex σ') : Ev P (.loop keep ks x) σ ex σ'
  | loop_out {keep : List Nat} {ks : List Key} {x : AC} {σ σ' : St} {ex : Ex} (h1 : Ev P x ((σ.forget keep).killAll ks) ex σ') (hne : ex ≠ .norm) : Ev P (.loop keep ks x) σ ex σ'
  | exit (id : Nat) (σ : St) : Ev P (.exit id) σ (.exit id) σ
  | ret (σ : St) : Ev P .ret σ .ret σ
  | keep {fz : List Key} {sl : List (Nat × Bool)} {bx : List (Key × Bool)} {dead : List Key} {up : List Up} {x : AC} {σ σ' : St} {ex : Ex} (h : Ev P x (σ.tidy fz sl bx dead up) ex σ') : Ev P (.keep fz sl bx dead up x) σ ex σ'
  | pass {id : Nat} {x : AC} {σ σ' : St} {ex : Ex} (h : Ev P x σ ex σ') : Ev P (.pass id x) σ ex σ'

section
variable {P : Program} {C : Ctx}

theorem ev_exits {ac : AC} {σ σ' : St} {ex : Ex} (he : Ev P ac σ ex σ') : ∀ id, ex = .exit id → ac.exits id = true := by
  induction he with
  | skip | ops | draw | drawZ | ret | block | block_exit | block_ret => intro id e; cases e
  | seq _ _ _ ih => intro id e; simp [AC.exits, ih id e]
  | seq_out _ _ ih => intro id e; simp [AC.exits, ih id e]
  | @cond c x y σ σ' ex t _ _ ih =>
    intro id e
    have := ih id e
    cases t with
    | true => simp only [cond_true] at this; simp [AC.exits, this]
    | false => simp only [cond_false] at this; simp [AC.exits, this]
  | block_out _ _ ih => intro id e; exact ih id e
  | loop _ _ _ ih => intro id e; exact ih id e
  | loop_out _ _ ih => intro id e; exact ih id e
  | exit j σ => intro id e; cases e; simp [AC.exits]
  | keep _ ih => intro id e; exact ih id e
  | pass _ ih => intro id e; exact ih id e

/-- What is laid in order ahead of code agrees with the code. -/
theorem agreeCode_keep {nt : Nat} {c : Code} {fz : List Key} {sl : List (Nat × Bool)} {bx : List (Key × Bool)} {dead : List Key} {up : List Up} {x : AC} (h : agreeCode P nt c (.keep fz sl bx dead up x) = true) : (∀ u ∈ up, ∀ i, u.key ≠ .ext i) ∧ agreeCode P nt c x = true := by
  have h : (up.all (fun u => u.key.noExt) && agreeCode P nt c x) = true := by
    cases c <;> exact h
  simp only [Bool.and_eq_true] at h
  exact ⟨fun u hu i e => absurd (List.all_eq_true.1 h.1 _ hu) (by rw [e]; simp [Key.noExt]), h.2⟩

theorem draw_in {ro : Option Nat} {n : Nat} (hm : P.follows .mixedOrders = true) {id : Nat} {ops : Array Oper} {Q : Exit → Act → World → Prop} {a : Act} {w : World} {K : Act → World → Prop} (hnd : ∀ (i : Nat) (o : Oper), ops.toList[i]? = some o → ∀ c, o.op ≠ .defer c)
    (h : ∀ Q' : Exit → Act → World → Prop, (∀ a w, K a w → Q' .normal a w) → wpAny P .any ops Q' ops.size (Array.replicate ops.size false) a { w with drawn := w.drawn + 1 }) (hK : ∀ a w, K a w → Q .normal a w) : (Code.region id ops true).wpIn (fr ro) n P Q a w := by
  have h1 := h (fun e a w => e = .normal ∧ K a w) (fun a w q => ⟨rfl, q⟩)
  refine wpIn_mono (wpIn_region_any hm (wpAnyIn_of (fun i o ho => hnd i o (by rw [Array.getElem?_toList]; exact ho)) ?_ _ _ _ _ h1)) ?_
  · rintro ⟨a, w, e, _⟩; cases e
  · rintro e a w ⟨rfl, q⟩; exact hK a w q

theorem ev_sound {ro : Option Nat} {n : Nat} (hm : P.follows .mixedOrders = true) {ac : AC} {σ σ' : St} {ex : Ex} (he : Ev P ac σ ex σ') : ∀ (c : Code) (β : Key → Blk) (a : Act) (w : World) (Q : Exit → Act → World → Prop), agreeCode P C.nt c ac = true → RR C β σ a w →
    (∀ β' a' w', RR C β' σ' a' w' → Q ex.to a' w') → c.wpIn (fr ro) n P Q a w ∧ ∀ c' keep ks x, c = .loop c' → ac = .loop keep ks x → Lp ro n P c' Q a w := by
  induction he with
  | skip σ =>
    intro c β a w Q hag h hQ
    cases c <;> simp only [agreeCode] at hag <;> try cases hag
    exact ⟨wpIn_skip (hQ _ _ _ h), by intro _ _ _ _ e; cases e⟩
  | @ops l σ σ' hr =>
    intro c β a w Q hag h hQ
    cases c <;> (try simp only [agreeCode] at hag) <;> try cases hag
    rename_i id ops draw
    cases draw <;> (try simp only [agreeCode] at hag) <;> try cases hag
    exact ⟨wpIn_region_list (sound_opsR hr h hag hQ), by intro _ _ _ _ e; cases e⟩
  | @draw cl ks l σ σ' hS hr =>
    intro c β a w Q hag h hQ
    cases c <;> (try simp only [agreeCode] at hag) <;> try cases hag
    rename_i id ops draw
    cases draw <;> (try simp only [agreeCode] at hag) <;> try cases hag
    simp only [Bool.and_eq_true] at hag
    refine ⟨?_, by intro _ _ _ _ e; cases e⟩
    refine draw_in hm (told_defer hag.1.1 hag.1.2) (fun Q' hQ' => ?_) (fun a w q => q)
    rcases Bool.or_eq_true_iff.1 hag.2 with h2 | h2
    · exact sound_draw hm hS h2 hag.1.1 h hr (fun β' a' w' h' => hQ' _ _ (hQ _ _ _ h'))
    · exact sound_draw2 hm hS h2 hag.1.1 h hr (fun β' a' w' h' => hQ' _ _ (hQ _ _ _ h'))
  | @drawZ cl ks l l2 σ σ' σ2 hS hI hr hz hr2 =>
    intro c β a w Q hag h hQ
    cases c <;> (try simp only [agreeCode] at hag) <;> try cases hag
    rename_i id ops draw
    cases draw <;> (try simp only [agreeCode] at hag) <;> try cases hag
    simp only [Bool.and_eq_true] at hag
    refine ⟨draw_in hm (told_defer hag.1.1.1.1 hag.1.1.1.2) (fun Q' hQ' => ?_) (fun a w q => q), by intro _ _ _ _ e; cases e⟩
    exact sound_drawZ hm hS hag.1.1.2 hag.2 hag.1.2 hI hag.1.1.1.1 h hr hz hr2 (fun β' a' w' h' => hQ' _ _ (hQ _ _ _ h'))
  | @seq x y σ σ1 σ' ex _ _ ih1 ih2 =>
    intro c β a w Q hag h hQ
    cases c <;> simp only [agreeCode] at hag <;> try cases hag
    simp only [Bool.and_eq_true] at hag
    refine ⟨wpIn_seq ?_, by intro _ _ _ _ e; cases e⟩
    exact (ih1 _ β a w _ hag.1 h (fun β' a' w' h' => (ih2 _ β' a' w' Q hag.2 h' hQ).1)).1
  | @seq_out x y σ σ' ex _ hne ih =>
    intro c β a w Q hag h hQ
    cases c <;> simp only [agreeCode] at hag <;> try cases hag
    simp only [Bool.and_eq_true] at hag
    refine ⟨wpIn_seq ?_, by intro _ _ _ _ e; cases e⟩
    refine (ih _ β a w _ hag.1 h (fun β' a' w' h' => ?_)).1
    have := hQ β' a' w' h'
    cases ex with
    | norm => exact absurd rfl hne
    | exit id => exact this
    | ret => exact this
  | @cond c' x y σ σ' ex t ht _ ih =>
    intro c β a w Q hag h hQ
    cases c <;> simp only [agreeCode] at hag <;> try cases hag
    simp only [Bool.and_eq_true] at hag
    have hs := h.ev hag.1.1
    rw [ht] at hs
    refine ⟨wpIn_cond (lies_bool (slies_pv hs)) ?_, by intro _ _ _ _ e; cases e⟩
    cases t with
    | true => exact (ih _ β a w Q hag.1.2 h hQ).1
    | false => exact (ih _ β a w Q hag.2 h hQ).1
  | @block id x σ σ' _ ih =>
    intro c β a w Q hag h hQ
    cases c <;> simp only [agreeCode] at hag <;> try cases hag
    simp only [Bool.and_eq_true, beq_iff_eq] at hag
    obtain ⟨rfl, hag⟩ := hag
    exact ⟨wpIn_block (ih _ β a w (Exit.inBlock _ Q) hag h (fun β' a' w' h' => hQ β' a' w' h')).1, by intro _ _ _ _ e; cases e⟩
  | @block_exit id x σ σ' _ ih =>
    intro c β a w Q hag h hQ
    cases c <;> simp only [agreeCode] at hag <;> try cases hag
    simp only [Bool.and_eq_true, beq_iff_eq] at hag
    obtain ⟨rfl, hag⟩ := hag
    refine ⟨wpIn_block (ih _ β a w _ hag h (fun β' a' w' h' => ?_)).1, by intro _ _ _ _ e; cases e⟩
    simp only [Ex.to, Exit.inBlock, if_true]
    exact hQ _ _ _ h'
  | @block_out id j x σ σ' _ hne ih =>
    intro c β a w Q hag h hQ
    cases c <;> simp only [agreeCode] at hag <;> try cases hag
    simp only [Bool.and_eq_true, beq_iff_eq] at hag
    obtain ⟨rfl, hag⟩ := hag
    refine ⟨wpIn_block (ih _ β a w _ hag h (fun β' a' w' h' => ?_)).1, by intro _ _ _ _ e; cases e⟩
    simp only [Ex.to, Exit.inBlock]
    rw [if_neg hne]
    exact hQ _ _ _ h'
  | @block_ret id x σ σ' _ ih =>
    intro c β a w Q hag h hQ
    cases c <;> simp only [agreeCode] at hag <;> try cases hag
    simp only [Bool.and_eq_true, beq_iff_eq] at hag
    obtain ⟨rfl, hag⟩ := hag
    exact ⟨wpIn_block (ih _ β a w (Exit.inBlock _ Q) hag h (fun β' a' w' h' => hQ β' a' w' h')).1, by intro _ _ _ _ e; cases e⟩
  | @loop keep ks x σ σ1 σ' ex _ _ ih1 ih2 =>
    intro c β a w Q hag h hQ
    cases c <;> simp only [agreeCode] at hag <;> try cases hag
    rename_i c1
    have hag0 := hag
    have hl : Lp ro n P c1 Q a w := by
      refine lp_round ?_
      exact (ih1 _ β a w _ hag ((h.forget keep).killAll ks) (fun β' a' w' h' => (ih2 (.loop c1) β' a' w' Q (by simpa only [agreeCode] using hag0) h' hQ).2 c1 keep ks x rfl rfl)).1
    refine ⟨wp_lp hl, fun c' keep' ks' x e1 e2 => ?_⟩
    cases e1; exact hl
  | @loop_out keep ks x σ σ' ex _ hne ih =>
    intro c β a w Q hag h hQ
    cases c <;> simp only [agreeCode] at hag <;> try cases hag
    rename_i c1
    have hl : Lp ro n P c1 Q a w := by
      refine lp_round ?_
      refine (ih _ β a w _ hag ((h.forget keep).killAll ks) (fun β' a' w' h' => ?_)).1
      have := hQ β' a' w' h'
      cases ex with
      | norm => exact absurd rfl hne
      | exit id => exact this
      | ret => exact this
    refine ⟨wp_lp hl, fun c' keep' ks' x e1 e2 => ?_⟩
    cases e1; exact hl
  | exit id σ =>
    intro c β a w Q hag h hQ
    cases c <;> simp only [agreeCode] at hag <;> try cases hag
    simp only [beq_iff_eq] at hag
    subst hag
    exact ⟨wpIn_exit (hQ _ _ _ h), by intro _ _ _ _ e; cases e⟩
  | ret σ =>
    intro c β a w Q hag h hQ
    cases c <;> simp only [agreeCode] at hag <;> try cases hag
    exact ⟨wpIn_ret (hQ _ _ _ h), by intro _ _ _ _ e; cases e⟩
  | @pass id x σ σ' ex hev ih =>
    intro c β a w Q hag h hQ
    cases c <;> simp only [agreeCode] at hag <;> try cases hag
    simp only [Bool.and_eq_true, beq_iff_eq, Bool.not_eq_true'] at hag
    obtain ⟨⟨rfl, hno⟩, hag⟩ := hag
    refine ⟨wpIn_block (ih _ β a w _ hag h (fun β' a' w' h' => ?_)).1, by intro _ _ _ _ e; cases e⟩
    have := hQ β' a' w' h'
    cases ex with
    | norm => exact this
    | ret => exact this
    | exit j =>
      simp only [Ex.to, Exit.inBlock]
      split
      · rename_i hj; subst hj
        rw [ev_exits hev _ rfl] at hno; cases hno
      · exact this
  | @keep fz sl bx dead up x σ σ' ex _ ih =>
    intro c β a w Q hag h hQ
    obtain ⟨hd, hag⟩ := agreeCode_keep hag
    obtain ⟨β', h'⟩ := h.tidy fz sl bx dead up hd
    exact ⟨(ih c β' a w Q hag h' hQ).1, by intro _ _ _ _ _ e; cases e⟩

/-- No calls. -/
def noCl : Callee := fun _ _ _ => none
theorem noCl_sound {P : Program} : Sound P noCl := fun _ _ _ _ h => by cases h

/-- A function of the program, as its text says. -/
theorem contract_ev (hm : P.follows .mixedOrders = true) {f : FuncId} {fn : Func} {fd : Fd} (hf : P.funcs[f]? = some fn) (hag : agreeF P fn fd = true) {args : List SV} {ext : List HObj} {r : Res} (hnp : args.length = fd.np) {ex : Ex} {σ : St}
    (he : Ev P fd.body (enter args ext) ex σ) (hex : ex = .norm ∨ ex = .ret) (hl : leave noCl fd ext.length σ = some r) : Contract P f args ext r := by
  simp only [agreeF, Bool.and_eq_true, decide_eq_true_eq, Bool.not_eq_true'] at hag
  obtain ⟨⟨⟨⟨h1, h2⟩, h5⟩, h3⟩, h4⟩ := hag
  have hloc : ∀ k ∈ fd.out, ∀ i, k ≠ .ext i := fun k hk i e => by subst e; have := List.all_eq_true.1 h5.2 _ hk; cases this
  split at h4
  · rename_i c hc
    refine ⟨⟨fn, hf, h2, by rw [hc]; rfl⟩, fun w vs γ ok hok hinj hobj hlen hargs => ?_⟩
    refine calls_of_wp hf hc (wpIn_wide (n := 0).1 ?_)
    show Code.wpIn (fr none) 0 P _ _ _ _
    have h0 := enter_rr (nt := fn.ntmps) hok hinj hobj hlen hargs (by omega)
    refine (ev_sound (C := ⟨w, ext, γ, fn.ntmps, ok, []⟩) hm he c _ _ w _ h4 h0 (fun β' a' w' h' => ?_)).1
    obtain ⟨v, δ, hr, haft⟩ := leave_sound h' h3 h5.1 hloc hl
    rcases hex with rfl | rfl
    · exact ⟨h'.dfs, v, hr, v, δ, rfl, haft⟩
    · exact ⟨h'.dfs, v, hr, v, δ, rfl, haft⟩
  · cases h4

end
end Go.Av
