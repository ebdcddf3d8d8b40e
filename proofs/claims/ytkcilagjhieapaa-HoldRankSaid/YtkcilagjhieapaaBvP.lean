/- Regions whose order is drawn, with operations that no order binds to a store: the test, and the states of the text's order. -/
import Derived.Test.YtkcilagjhieapaaBvO
set_option linter.unusedVariables false
set_option linter.unusedSimpArgs false
namespace Go.Av

/-- What must be ordered against a store. -/
def AOp.tied (op : AOp) (d : Nat) : Bool := op.reads || op.isStore || !(op.keys d).isEmpty

def ordS (m : Nat) (ms : List Nat) (j : Nat) : Nat → List GOp → Bool
  | _, [] => true
  | i, g :: gs => (i == j || !(g.op.tied (g.d.getD 0)) || (bif decide (i < j) then m.testBit i else (ms.getD i 0).testBit j)) && ordS m ms j (i + 1) gs

def drawAt2 (ms : List Nat) (gs : List GOp) (ks : List Key) (j : Nat) (o : Oper) (g : GOp) : Bool :=
  o.after.toList.all (fun e => !Region.binds .any e || decide (e.on < j)) &&
  (g.op.keys (g.d.getD 0)).all (fun k => ks.contains k && g.d.isSome) &&
  g.looks.all (fun t => freeLook (ms.getD j 0) j t 0 gs) &&
  (!g.op.isB || g.op.isStore) && (!g.op.isStore || ordS (ms.getD j 0) ms j 0 gs)

def drawsAt2 (ms : List Nat) (gs : List GOp) (ks : List Key) : Nat → List Oper → List GOp → Bool
  | _, [], [] => true
  | j, o :: os, g :: gs' => drawAt2 ms gs ks j o g && drawsAt2 ms gs ks (j + 1) os gs'
  | _, _, _ => false

def drawOK2 (ops : List Oper) (gs : List GOp) (ks : List Key) : Bool :=
  distinct gs && ks.all (fun | .ext _ => false | _ => true) && drawsAt2 (masks [] ops) gs ks 0 ops gs

structure DrawOK2 (ops : List Oper) (gs : List GOp) (ks : List Key) : Prop extends DrawBase ops gs ks where
  onlyS : ∀ (j : Nat) (g : GOp), gs[j]? = some g → g.op.isB = true → g.op.isStore = true
  ord : ∀ (j : Nat) (g : GOp), gs[j]? = some g → g.op.isStore = true → ∀ (i : Nat) (g' : GOp), gs[i]? = some g' → g'.op.tied (g'.d.getD 0) = true → (i < j → Reach ops j i) ∧ (j < i → Reach ops i j)

theorem ordS_spec {m : Nat} {ms : List Nat} {j : Nat} : ∀ {gs : List GOp} {i0 : Nat}, ordS m ms j i0 gs = true → ∀ (i : Nat) (g : GOp), gs[i]? = some g → g.op.tied (g.d.getD 0) = true →
    (i0 + i < j → m.testBit (i0 + i) = true) ∧ (j < i0 + i → (ms.getD (i0 + i) 0).testBit j = true)
  | [], _, _, i, g, h, _ => by simp at h
  | g0 :: gs, i0, h, i, g, hg, ht => by
    simp only [ordS, Bool.and_eq_true] at h
    cases i with
    | zero =>
      simp at hg; subst hg
      have h1 := h.1
      rw [ht] at h1
      simp only [Bool.not_true, Bool.or_false, Bool.or_eq_true] at h1
      simp only [Nat.add_zero]
      refine ⟨fun hlt => ?_, fun hlt => ?_⟩
      · have hne : (i0 == j) = false := by simp; omega
        simpa [hne, hlt] using h1
      · have hne : (i0 == j) = false := by simp; omega
        have hnl : ¬ i0 < j := by omega
        simpa [hne, hnl] using h1
    | succ i =>
      have := ordS_spec h.2 i g (by simpa using hg) ht
      rw [show i0 + (i + 1) = i0 + 1 + i by omega]
      exact this

theorem drawsAt2_spec {ms : List Nat} {gs : List GOp} {ks : List Key} : ∀ {os : List Oper} {gs' : List GOp} {j0 : Nat}, drawsAt2 ms gs ks j0 os gs' = true →
    os.length = gs'.length ∧ ∀ (j : Nat) (o : Oper) (g : GOp), os[j]? = some o → gs'[j]? = some g → drawAt2 ms gs ks (j0 + j) o g = true
  | [], [], _, _ => by simp
  | [], _ :: _, _, h => by simp [drawsAt2] at h
  | _ :: _, [], _, h => by simp [drawsAt2] at h
  | o :: os, g :: gs', j0, h => by
    simp only [drawsAt2, Bool.and_eq_true] at h
    obtain ⟨e1, e2⟩ := drawsAt2_spec h.2
    refine ⟨by simp [e1], fun j o' g' h1 h2 => ?_⟩
    cases j with
    | zero => simp at h1 h2; subst h1; subst h2; exact h.1
    | succ j =>
      rw [show j0 + (j + 1) = j0 + 1 + j by omega]
      exact e2 j o' g' (by simpa using h1) (by simpa using h2)

theorem drawOK2_spec {ops : List Oper} {gs : List GOp} {ks : List Key} (h : drawOK2 ops gs ks = true) : DrawOK2 ops gs ks := by
  simp only [drawOK2, Bool.and_eq_true] at h
  obtain ⟨⟨h1, h2⟩, h3⟩ := h
  obtain ⟨e1, e2⟩ := drawsAt2_spec h3
  have hr : ∀ j i, ((masks [] ops).getD j 0).testBit i = true → Reach ops j i := masks_spec ops [] [] rfl rfl (by simp)
  have both : ∀ (j : Nat) (g : GOp), gs[j]? = some g → ∃ o, ops[j]? = some o ∧ drawAt2 (masks [] ops) gs ks j o g = true := fun j g hg => by
    have hlt := (List.getElem?_eq_some_iff.1 hg).1
    have ho : ops[j]? = some (ops[j]'(by omega)) := List.getElem?_eq_getElem (by omega)
    exact ⟨_, ho, by simpa using e2 j _ g ho hg⟩
  refine ⟨⟨e1, distinct_spec h1, distinct_app h1, ?_, ?_, ?_, ?_⟩, ?_, ?_⟩
  · intro k hk i e
    subst e
    have := List.all_eq_true.1 h2 _ hk
    simp at this
  · intro j o ho e he hb
    have hlt := (List.getElem?_eq_some_iff.1 ho).1
    have hg : gs[j]? = some (gs[j]'(by omega)) := List.getElem?_eq_getElem (by omega)
    have := e2 j o _ ho hg
    simp only [drawAt2, Bool.and_eq_true, List.all_eq_true, Nat.zero_add] at this
    have := this.1.1.1.1 e (by simpa using he)
    simpa [hb] using this
  · intro j g hg k hk
    obtain ⟨o, ho, hd⟩ := both j g hg
    simp only [drawAt2, Bool.and_eq_true, List.all_eq_true] at hd
    have := hd.1.1.1.2 k hk
    exact ⟨by simpa using this.1, Option.isSome_iff_exists.1 this.2⟩
  · intro j g hg t ht i g' hg' hd'
    obtain ⟨o, ho, hd⟩ := both j g hg
    simp only [drawAt2, Bool.and_eq_true, List.all_eq_true] at hd
    have := freeLook_spec (hd.1.1.2 t ht) i g' hg' hd'
    simp only [Nat.zero_add] at this
    exact ⟨this.1, hr j i this.2⟩
  · intro j g hg hB
    obtain ⟨o, ho, hd⟩ := both j g hg
    simp only [drawAt2, Bool.and_eq_true] at hd
    have := hd.1.2
    rw [hB] at this
    simpa using this
  · intro j g hg hS i g' hg' ht
    obtain ⟨o, ho, hd⟩ := both j g hg
    simp only [drawAt2, Bool.and_eq_true] at hd
    have := hd.2
    rw [hS] at this
    simp only [Bool.not_true, Bool.false_or] at this
    have := ordS_spec this i g' hg' ht
    simp only [Nat.zero_add] at this
    exact ⟨fun h => hr j i (this.1 h), fun h => hr i j (this.2 h)⟩

/-! ### stores -/

theorem store_step {cl : Callee} {σ1 σ1' : St} {d : Option Nat} {op : AOp} (hs : op.isStore = true) (h : bstep cl σ1 d op = some σ1') :
    ∃ k o o', σ1.look k = some o ∧ o.sim o' ∧ σ1' = (σ1.over k o').put d .dead ∧ (∃ x ∈ op.opds, (σ1.ev x).names k = true) ∧
      ∀ σ2 : St, (∀ x ∈ op.opds, σ2.ev x = σ1.ev x) → σ2.look k = some o → bstep cl σ2 d op = some ((σ2.over k o').put d .dead) := by
  cases op with
  | store n a x =>
    simp only [bstep] at h
    split at h
    · rename_i k off ha
      split at h
      · rename_i cs hk
        split at h
        · cases h
        · cases h
        · rename_i v n1 n2
          split at h
          · rename_i hc
            simp only [Option.some.injEq] at h; subst h
            refine ⟨k, .box cs, .box (setRange cs off (σ1.ev x).cells), hk, trivial, rfl, ⟨a, by simp [AOp.opds], by rw [ha]; simp [SV.names]⟩, fun σ2 hev hk2 => ?_⟩
            have e1 := hev a (by simp [AOp.opds])
            have e2 := hev x (by simp [AOp.opds])
            simp only [bstep, e1, e2, ha, hk2]
            have m1 : ∀ vs, σ1.ev x ≠ .tup vs := n1
            have m2 : σ1.ev x ≠ .dead := n2
            have m3 : (σ1.ev x).cells.length = n ∧ off + n ≤ cs.length := hc
            clear hc n1 n2 hev e2
            revert m1 m2 m3
            generalize σ1.ev x = xv
            intro m1 m2 m3
            cases xv with
            | tup vs => exact absurd rfl (m1 vs)
            | dead => exact absurd rfl m2
            | _ => simp only [if_pos m3]
          · cases h
      · cases h
    · rename_i k i off ha
      split at h
      · rename_i sz xs v hk hx
        split at h
        · rename_i e he
          split at h
          · rename_i hc
            split at h
            · rename_i e' he'
              simp only [Option.some.injEq] at h; subst h
              refine ⟨k, _, _, hk, ?_, rfl, ⟨a, by simp [AOp.opds], by rw [ha]; simp [SV.names]⟩, fun σ2 hev hk2 => ?_⟩
              · simp [HObj.sim]
              · have e1 := hev a (by simp [AOp.opds])
                have e2 := hev x (by simp [AOp.opds])
                simp only [bstep, e1, e2, ha, hk2, hx, he, if_pos hc, he']
            · cases h
          · cases h
        · cases h
      · cases h
    · cases h
  | _ => cases hs

end Go.Av
