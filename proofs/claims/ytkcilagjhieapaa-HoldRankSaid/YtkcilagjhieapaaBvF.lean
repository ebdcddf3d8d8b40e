/- Operations that change what was there; operations under guards; regions in the order of their text. -/
import Derived.Test.YtkcilagjhieapaaBvE
set_option linter.unusedVariables false
set_option linter.unusedSimpArgs false
namespace Go.Av
section
variable {P : Program} {C : Ctx} {β : Key → Blk} {σ : St} {a : Act} {w : World} {o : Oper}

theorem bstep_sound {cl : Callee} (hS : Sound P cl) (h : RR C β σ a w) (hd : ∀ i, o.dst = some i → i < C.nt) {op : AOp} (hag : agree P op o.op = true) {σ' : St} (hb : bstep cl σ o.dst op = some σ') :
    StepOK P C σ' o a w := by
  cases op with
  | store n x y =>
    simp only [agree] at hag
    unfold agStore at hag
    split at hag
    · rename_i ho
      split at hag
      · rename_i i hi
        simp only [Bool.and_eq_true, beq_iff_eq] at hag
        obtain ⟨⟨g1, g2⟩, g3⟩ := hag
        simp only [bstep] at hb
        split at hb
        · rename_i k off hx
          split at hb
          · rename_i cs hk
            split at hb
            · cases hb
            · cases hb
            · rename_i v n1 n2
              split at hb
              · rename_i hc
                simp only [Option.some.injEq] at hb; subst hb
                exact sound_store_box h hd ho hi g1 g2 g3 hx hk n1 n2 hc.1 hc.2
              · cases hb
          · cases hb
        · rename_i k i off hx
          split at hb
          · rename_i sz xs v hk hv
            split at hb
            · rename_i e he
              split at hb
              · rename_i hc
                split at hb
                · rename_i e' he'
                  simp only [Option.some.injEq] at hb; subst hb
                  exact sound_store_row h hd ho hi g1 g2 g3 hx hv hk he hc.1 hc.2 he'
                · cases hb
              · cases hb
            · cases hb
          · cases hb
        · cases hb
      · cases hag
    · cases hag
  | append kd sz bytes x y =>
    simp only [agree] at hag
    unfold agApp at hag
    split at hag
    · rename_i c ho
      split at hag
      · rename_i x1 y1 t t' hc hca hct
        have hca : c.args = #[x1, y1] := by rw [← Array.toArray_toList (xs := c.args), hca]
        have hct : c.argTypes = #[t, t'] := by rw [← Array.toArray_toList (xs := c.argTypes), hct]
        simp only [Bool.and_eq_true, beq_iff_eq] at hag
        obtain ⟨⟨⟨rfl, g1⟩, g2⟩, g3⟩ := hag
        split at g1
        · rename_i i hi0
          obtain ⟨e1, ht, hi⟩ := elemI_spec hi0
          split at g1
          · rename_i z hz
            simp only [Bool.and_eq_true, beq_iff_eq, bne_iff_ne] at g1
            obtain ⟨⟨⟨q1, q2⟩, q3⟩, q4⟩ := g1
            simp only [bstep] at hb
            split at hb
            · cases hb
            · rename_i d hdst
              split at hb
              · cases hb
              · rename_i ys hy
                split at hb
                · rename_i hx
                  split at hb
                  · rename_i hcond
                    simp only [Option.some.injEq] at hb; subst hb
                    have := sound_append_nil h hd ho hc hca hct ht hi hz q1 q2 q3 q4 g2 g3 hx (k := .loc kd 0) (by intro i e; cases e) hy hcond.1 hcond.2.1 hcond.2.2
                    rw [hdst] at this
                    exact this
                  · cases hb
                · rename_i k hx
                  split at hb
                  · rename_i sz' xs hk
                    split at hb
                    · rename_i hcond
                      obtain ⟨c1, rfl, c3, c4⟩ := hcond
                      simp only [Option.some.injEq] at hb; subst hb
                      have := sound_append_own h hd ho hc hca hct ht hi hz q1 q2 q3 q4 g2 g3 hx hk (k2 := .loc kd 0) (by intro i e; cases e) hy c1 c3 c4
                      rw [hdst] at this
                      exact this
                    · cases hb
                  · cases hb
                · cases hb
          · cases g1
        · cases g1
      · cases hag
    · cases hag
  | call keep m f args fz ln =>
    simp only [agree, Bool.and_eq_true, decide_eq_true_eq] at hag
    obtain ⟨hnd, hag⟩ := hag
    unfold agCall at hag
    split at hag
    · rename_i c ho
      split at hag
      · rename_i fo hc
        simp only [Bool.and_eq_true] at hag
        exact sound_callB hS h hd ho hc hag.1 hag.2 hnd hb
      · cases hag
    · cases hag
  | mset kk x k v =>
    simp only [agree] at hag
    have hop : ∃ t x1 k1 v1, (o.op = .mapUpdate t x1 k1 v1 ∨ o.op = .insert t x1 k1 v1) ∧ (match mapOf P t with | some (d, _) => kk.is d && agreeO x1 x && agreeO k1 k && agreeO v1 v | none => false) = true := by
      unfold agMset at hag
      split at hag
      · rename_i t x1 k1 v1 ho; exact ⟨t, x1, k1, v1, .inl ho, hag⟩
      · rename_i t x1 k1 v1 ho; exact ⟨t, x1, k1, v1, .inr ho, hag⟩
      · cases hag
    obtain ⟨t, x1, k1, v1, ho, hag⟩ := hop
    split at hag
    · rename_i ds it hmo
      obtain ⟨kt, et, ht, hkt, hit⟩ := mapOf_spec hmo
      simp only [Bool.and_eq_true] at hag
      obtain ⟨⟨⟨g1, g2⟩, g3⟩, g4⟩ := hag
      simp only [bstep] at hb
      split at hb
      · rename_i key kv vv hx hk hv
        split at hb
        · rename_i kk' es hlk
          cases hc : (decide (kk' = kk) && kv.isKK kk) with
          | false => rw [hc] at hb; cases hb
          | true =>
            rw [hc, cond_true] at hb
            simp only [Bool.and_eq_true, decide_eq_true_eq] at hc
            obtain ⟨rfl, hkv⟩ := hc
            simp only [Option.some.injEq] at hb; subst hb
            exact sound_mset h hd ho g2 g3 g4 ht hkt g1 hx hlk hk hv hkv
        · cases hb
      · cases hb
    · cases hag
  | _ => cases hb

/-! ### guards -/

/-- What an operation under its guard does: nothing but its own slot and names. -/
def effOf (cl : Callee) (σ : St) (o : GOp) : Option Eff :=
  match σ.wants o.g with
  | none => none
  | some false => some ⟨o.op.skipV, []⟩
  | some true => aeff cl σ (o.d.getD 0) o.op

def agreeGuard (ops : Array Oper) : Option (Nat × Bool) → Option (Nat × Bool) → Bool
  | none, none => true
  | some (q, b), some (t, b') => b == b' && (match (ops[q]?).bind (·.dst) with | some t' => t' == t | none => false)
  | _, _ => false

def agreeG (P : Program) (nt : Nat) (ops : Array Oper) (o : Oper) (g : GOp) : Bool :=
  agree P g.op o.op && o.dst == g.d && (match o.dst with | some i => decide (i < nt) | none => true) && agreeGuard ops o.guard g.g

theorem agreeG_spec {nt : Nat} {ops : Array Oper} {g : GOp} (h : agreeG P nt ops o g = true) :
    agree P g.op o.op = true ∧ o.dst = g.d ∧ (∀ i, o.dst = some i → i < nt) ∧ agreeGuard ops o.guard g.g = true := by
  simp only [agreeG, Bool.and_eq_true, beq_iff_eq] at h
  refine ⟨h.1.1.1, h.1.1.2, fun i hi => ?_, h.2⟩
  have := h.1.2
  rw [hi] at this
  simpa using this

theorem wants_wanted {ops : Array Oper} {g : GOp} (h : RR C β σ a w) (hg : agreeGuard ops o.guard g.g = true) {b : Bool} (hw : σ.wants g.g = some b) : Region.wanted o (yielded ops a.tmps) = b := by
  unfold agreeGuard at hg
  split at hg
  · rename_i h1 h2
    rw [h2] at hw
    simp only [St.wants, Option.some.injEq] at hw
    subst hw
    unfold Region.wanted
    rw [h1]
  · rename_i q b1 t b2 h1 h2
    simp only [Bool.and_eq_true, beq_iff_eq] at hg
    obtain ⟨rfl, hg⟩ := hg
    split at hg
    · rename_i t' ht
      simp only [beq_iff_eq] at hg
      subst hg
      rw [h2] at hw
      simp only [St.wants] at hw
      split at hw
      · rename_i c hc
        simp only [Option.some.injEq] at hw
        subst hw
        have hs := h.slots t'
        rw [hc] at hs
        have hs := lies_bool (slies_pv hs)
        have hlt : t' < a.tmps.size := by
          by_cases hlt : t' < a.tmps.size
          · exact hlt
          · simp [Array.getD, hlt, undef] at hs
        have hget : a.tmps[t']? = some (.bool c) := by
          rw [Array.getElem?_eq_getElem hlt]
          simpa [Array.getD, hlt] using hs
        unfold Region.wanted
        rw [h1]
        simp only [yielded, ht, Option.bind_some, hget]
        simp
      · rename_i hc
        simp only [Option.some.injEq] at hw
        subst hw
        have hs := h.slots t'
        rw [hc] at hs
        unfold Region.wanted
        rw [h1]
        simp only [yielded, ht, Option.bind_some]
        cases hget : a.tmps[t']? with
        | none => simp
        | some v =>
          have hv : a.tmps.getD t' undef = v := by simp [Array.getD_eq_getD_getElem?, hget]
          rw [hv] at hs
          cases hs with
          | tup cs us hl _ =>
            simp
      · cases hw
    · cases hg
  · cases hg

/-- An operation under its guard: the machine's text. -/
def Guarded (P : Program) (ops : Array Oper) (o : Oper) (a : Act) (w : World) (K : Act → World → Prop) (Q : Exit → Act → World → Prop) : Prop :=
  if Region.wanted o (yielded ops a.tmps) then o.wp P a w K Q else K (a.put o.dst undef) w

theorem skipV_lies {ok : Nat → Prop} {lk : Key → Option HObj} (op : AOp) : SLies w ok β lk op.skipV undef := by
  unfold AOp.skipV
  cases op.isB with
  | true => exact .dead _
  | false => exact .tup [] [] rfl (by simp)

theorem guardedA {cl : Callee} (hS : Sound P cl) {ops : Array Oper} {g : GOp} (h : RR C β σ a w) (hag : agreeG P C.nt ops o g = true) {e : Eff} (he : effOf cl σ g = some e) (hfr : ∀ k ∈ g.op.keys (g.d.getD 0), σ.look k = none)
    {K : Act → World → Prop} (hK : ∀ β' a' w', RR C β' ((σ.insAll e.ins).put g.d e.v) a' w' → K a' w') (Q : Exit → Act → World → Prop) : Guarded P ops o a w K Q := by
  obtain ⟨g1, g2, g3, g4⟩ := agreeG_spec hag
  unfold effOf at he
  unfold Guarded
  cases hw : σ.wants g.g with
  | none => rw [hw] at he; cases he
  | some b =>
    rw [hw] at he
    rw [wants_wanted h g4 hw]
    cases b with
    | false =>
      simp only [Option.some.injEq] at he; subst he
      simp only [Bool.false_eq_true, if_false]
      have := h.put o.dst g.op.skipV undef g3 (skipV_lies _)
      rw [g2] at this ⊢
      exact hK β _ _ this
    | true =>
      simp only [if_true]
      have := stepA_sound hS h g3 g1 he hfr K (by rw [g2]; exact hK) Q
      exact this

theorem keys_no_ext {op : AOp} {d : Nat} : ∀ k ∈ op.keys d, ∀ i, k ≠ .ext i := by
  intro k hk i e
  subst e
  unfold AOp.keys at hk
  split at hk
  · simp at hk
  · simp at hk
  · simp at hk
  · simp at hk
  · simp at hk
  · split at hk <;> simp at hk
  · simp at hk
  · simp at hk

theorem guardedS {cl : Callee} (hS : Sound P cl) {ops : Array Oper} {g : GOp} (h : RR C β σ a w) (hag : agreeG P C.nt ops o g = true) {σ' : St} (hs : step cl false σ g = some σ')
    {K : Act → World → Prop} (hK : ∀ β' a' w', RR C β' σ' a' w' → K a' w') (Q : Exit → Act → World → Prop) : Guarded P ops o a w K Q := by
  obtain ⟨g1, g2, g3, g4⟩ := agreeG_spec hag
  unfold step at hs
  unfold Guarded
  cases hw : σ.wants g.g with
  | none => rw [hw] at hs; cases hs
  | some b =>
    rw [hw] at hs
    rw [wants_wanted h g4 hw]
    cases b with
    | false =>
      simp only [Option.some.injEq] at hs; subst hs
      simp only [Bool.false_eq_true, if_false]
      have := h.put o.dst g.op.skipV undef g3 (skipV_lies _)
      rw [g2] at this ⊢
      exact hK β _ _ this
    | true =>
      simp only [if_true]
      cases hB : g.op.isB with
      | true =>
        simp only [hB, cond_true] at hs
        rw [← g2] at hs
        exact bstep_sound hS h g3 g1 hs K hK Q
      | false =>
        simp only [hB, cond_false] at hs
        unfold stepA at hs
        split at hs
        · rename_i e he
          simp only [Option.some.injEq] at hs; subst hs
          have := stepA_sound hS (h.killAll _) g3 g1 he (fun k hk => look_killAll _ _ _ hk) K (by rw [g2]; exact hK) Q
          exact this
        · cases hs

/-! ### regions in the order of their text -/

theorem sound_ops {cl : Callee} (hS : Sound P cl) {ops : Array Oper} {Q : Exit → Act → World → Prop} : ∀ {l : List Oper} {l' : List GOp} {β : Key → Blk} {σ σ' : St} {a : Act} {w : World}, RR C β σ a w → all2 (agreeG P C.nt ops) l l' = true → runOps cl false l' σ = some σ' →
    (∀ β' a' w', RR C β' σ' a' w' → Q .normal a' w') → wpList P ops Q l a w
  | [], [], β, σ, σ', a, w, h, _, hr, hQ => by
    simp only [runOps, Option.some.injEq] at hr; subst hr
    exact wpList_nil (hQ β a w h)
  | o :: l, g :: l', β, σ, σ', a, w, h, hag, hr, hQ => by
    simp only [all2, Bool.and_eq_true] at hag
    simp only [runOps] at hr
    cases hs : step cl false σ g with
    | none => rw [hs] at hr; cases hr
    | some σ1 =>
      rw [hs] at hr
      refine wpList_step (fun K hK => ?_)
      exact guardedS hS h hag.1 hs (fun β' a' w' h' => hK _ _ (sound_ops hS h' hag.2 hr hQ)) Q
  | [], _ :: _, _, _, _, _, _, _, hag, _, _ => by simp [all2] at hag
  | _ :: _, [], _, _, _, _, _, _, hag, _, _ => by simp [all2] at hag

end
end Go.Av
