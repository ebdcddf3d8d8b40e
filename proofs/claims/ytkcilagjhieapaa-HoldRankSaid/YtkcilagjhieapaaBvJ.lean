/- Regions whose order is drawn: the machine's. -/
import Derived.Test.YtkcilagjhieapaaBvI
set_option linter.unusedVariables false
set_option linter.unusedSimpArgs false
namespace Go.Av

theorem filter_less {p q : Nat → Bool} : ∀ (l : List Nat) (i : Nat), i ∈ l → p i = true → q i = false → (∀ j, q j = true → p j = true) → (l.filter q).length + 1 ≤ (l.filter p).length
  | [], i, h, _, _, _ => by simp at h
  | x :: l, i, h, hp, hq, hsub => by
    have weak : ∀ l : List Nat, (l.filter q).length ≤ (l.filter p).length := by
      intro l
      induction l with
      | nil => simp
      | cons y l ih =>
        simp only [List.filter_cons]
        cases hqy : q y with
        | true => rw [hsub y hqy]; simpa using ih
        | false => cases hpy : p y with
          | true => simp; omega
          | false => simpa using ih
    by_cases hx : x = i
    · subst hx
      simp only [List.filter_cons, hp, hq, if_true, Bool.false_eq_true, if_false, List.length_cons]
      have := weak l
      omega
    · have hm : i ∈ l := by
        rcases List.mem_cons.1 h with h | h
        · exact absurd h.symm hx
        · exact h
      have ih := filter_less l i hm hp hq hsub
      simp only [List.filter_cons]
      cases hqy : q x with
      | true => rw [hsub x hqy]; simpa using ih
      | false => cases hpy : p x with
        | true => simp; omega
        | false => simpa using ih

theorem getD_set (listed : Array Bool) (i j : Nat) (d : Bool) : (listed.setIfInBounds i true).getD j d = if i = j ∧ i < listed.size then true else listed.getD j d := by
  simp only [Array.getD_eq_getD_getElem?, Array.getElem?_setIfInBounds]
  by_cases h : i = j
  · subst h
    by_cases h2 : i < listed.size
    · simp [h2]
    · simp [h2]
  · simp [h]

section
variable {P : Program} {C : Ctx} {β : Key → Blk} {σ : St} {a : Act} {w : World} {cl : Callee} {ops : Array Oper} {gs : List GOp} {ks : List Key}

theorem guarded_wpOp {j : Nat} {o : Oper} (ho : ops[j]? = some o) {K : Act → World → Prop} {Q : Exit → Act → World → Prop} (h : Guarded P ops o a w K Q) : wpOp P ops Q j K a w := by
  unfold wpOp
  unfold Guarded at h
  simp only [ho]
  split
  · rename_i hw; rw [if_pos hw] at h; exact .inl h
  · rename_i hw; rw [if_neg hw] at h; exact h

theorem all2G {nt : Nat} : ∀ {l : List Oper} {l' : List GOp}, all2 (agreeG P nt ops) l l' = true → ∀ (j : Nat) (o : Oper) (g : GOp), l[j]? = some o → l'[j]? = some g → agreeG P nt ops o g = true
  | [], [], _, j, o, g, h, _ => by simp at h
  | [], _ :: _, h, _, _, _, _, _ => by simp [all2] at h
  | _ :: _, [], h, _, _, _, _, _ => by simp [all2] at h
  | x :: l, y :: l', h, j, o, g, h1, h2 => by
    simp only [all2, Bool.and_eq_true] at h
    cases j with
    | zero => simp at h1 h2; subst h1; subst h2; exact h.1
    | succ j => exact all2G h.2 j o g (by simpa using h1) (by simpa using h2)

theorem reach_listed {L : Nat → Prop} (hcl : ∀ i o e, L i → ops.toList[i]? = some o → e ∈ o.after → Region.binds .any e = true → L e.on) {j i : Nat} (hR : Reach ops.toList j i) :
    (∀ o e, ops.toList[j]? = some o → e ∈ o.after → Region.binds .any e = true → L e.on) → L i := by
  induction hR with
  | edge j o e ho he hb => intro h; exact h o e ho he hb
  | far j i o e ho he hb _ ih => intro h; exact ih (fun o' e' ho' he' hb' => hcl _ o' e' (h o e ho he hb) ho' he' hb')

theorem sound_draw (hm : P.follows .mixedOrders = true) (hS : Sound P cl) {Q : Exit → Act → World → Prop} (hck : drawOK ops.toList gs ks = true) (hag : all2 (agreeG P C.nt ops) ops.toList gs = true) {σ' : St} (h : RR C β σ a w)
    (hr : runOps cl true gs (σ.killAll ks) = some σ') (hQ : ∀ β' a' w', RR C β' σ' a' w' → Q .normal a' w') : wpAny P .any ops Q ops.size (Array.replicate ops.size false) a { w with drawn := w.drawn + 1 } := by
  have hD := drawOK_spec hck
  obtain ⟨S, e1, e2, hR⟩ := runs_of hr
  have h0 : ∀ k ∈ ks, (S 0).look k = none := fun k hk => by rw [e1]; exact look_killAll _ _ _ hk
  have hlen : ops.size = gs.length := by simpa using hD.len
  have hop : ∀ {j : Nat} {o : Oper}, ops[j]? = some o → ops.toList[j]? = some o := fun h => by rw [Array.getElem?_toList]; exact h
  have main : ∀ (fuel : Nat) (listed : Array Bool) (a : Act) (w : World) (m : Nat) (β : Key → Blk) (σ : St), listed.size = ops.size → ((List.range ops.size).filter fun i => !listed.getD i false).length ≤ fuel →
      (∀ i o e, listed.getD i false = true → ops.toList[i]? = some o → e ∈ o.after → Region.binds .any e = true → listed.getD e.on false = true) → m ≤ ops.size → (∀ i, i < m → listed.getD i false = true) →
      (∀ i g, m ≤ i → listed.getD i false = true → gs[i]? = some g → g.op.isB = false) → Seg cl gs S m (fun i => listed.getD i false = true) σ → RR C β σ a w → wpAny P .any ops Q fuel listed a w := by
    intro fuel
    induction fuel with
    | zero =>
      intro listed a w m β σ hsz hcnt hcl hmn hlow hBL hseg hr
      have hall : ∀ i, i < ops.size → listed.getD i false = true := by
        intro i hi
        have h1 := List.eq_nil_of_length_eq_zero (Nat.le_zero.1 hcnt)
        have h2 := (List.filter_eq_nil_iff.1 h1) i (List.mem_range.2 hi)
        simpa using h2
      refine ⟨?_, ?_⟩
      · rw [List.eq_nil_iff_forall_not_mem]
        intro j hj
        obtain ⟨q1, o, q2, _⟩ := mem_ready.1 hj
        have hlt := (Array.getElem?_eq_some_iff.1 q2).1
        have := hall j hlt
        have e : listed.getD j true = listed.getD j false := by simp [Array.getD, hsz, hlt]
        rw [e, this] at q1; cases q1
      · have ht := Seg.text (cl := cl) hD hR m gs.length (by omega) (Nat.le_refl _) (fun i g q1 q2 q3 => hBL i g q1 (hall i (by omega)) q3)
        obtain ⟨q1, q2⟩ := Seg.same hR hseg ht (fun i q1 q2 => ⟨fun _ => q2, fun _ => hall i (by omega)⟩) hBL
        have := hr.congr q1 q2
        rw [e2] at this
        exact hQ _ _ _ this
    | succ fuel ih =>
      intro listed a w m β σ hsz hcnt hcl hmn hlow hBL hseg hr
      have hgd : ∀ {j : Nat}, j < ops.size → listed.getD j true = listed.getD j false := fun hlt => by simp [Array.getD, hsz, hlt]
      refine ⟨fun hnil => ?_, fun j hj => ?_⟩
      · have hall : ∀ i, i < ops.size → listed.getD i false = true := by
          intro i
          induction i using Nat.strongRecOn with
          | _ i ih2 =>
            intro hi
            cases hc : listed.getD i false with
            | true => rfl
            | false =>
              have : i ∈ Region.ready .any ops listed := by
                refine mem_ready.2 ⟨by rw [hgd hi]; exact hc, ops[i], Array.getElem?_eq_getElem hi, fun e he hb => ?_⟩
                have := hD.back i _ (hop (Array.getElem?_eq_getElem hi)) e he hb
                exact ih2 _ this (by omega)
              rw [hnil] at this
              cases this
        have ht := Seg.text (cl := cl) hD hR m gs.length (by omega) (Nat.le_refl _) (fun i g q1 q2 q3 => hBL i g q1 (hall i (by omega)) q3)
        obtain ⟨q1, q2⟩ := Seg.same hR hseg ht (fun i q1 q2 => ⟨fun _ => q2, fun _ => hall i (by omega)⟩) hBL
        have := hr.congr q1 q2
        rw [e2] at this
        exact hQ _ _ _ this
      · obtain ⟨hun, o, ho, hafter⟩ := mem_ready.1 hj
        have hlt := (Array.getElem?_eq_some_iff.1 ho).1
        rw [hgd hlt] at hun
        have hg : gs[j]? = some (gs[j]'(by omega)) := List.getElem?_eq_getElem (by omega)
        have hmj : m ≤ j := by
          by_cases hh : m ≤ j
          · exact hh
          · have := hlow j (by omega); rw [hun] at this; cases this
        have hreach : ∀ i, Reach ops.toList j i → listed.getD i false = true := fun i hR' => reach_listed (L := fun i => listed.getD i false = true) hcl hR' (fun o' e ho' he hb => by
          rw [hop ho] at ho'; cases ho'; exact hafter e he hb)
        have hG := all2G hag j o _ (hop ho) hg
        have hset : ∀ i, (listed.setIfInBounds j true).getD i false = true ↔ listed.getD i false = true ∨ i = j := by
          intro i
          rw [getD_set]
          by_cases e : j = i
          · subst e; simp [hsz, hlt]
          · rw [if_neg (fun h => e h.1)]
            constructor
            · exact .inl
            · rintro (h | h)
              · exact h
              · exact absurd h.symm e
        have hcnt' : ((List.range ops.size).filter fun i => !(listed.setIfInBounds j true).getD i false).length ≤ fuel := by
          have := filter_less (p := fun i => !listed.getD i false) (q := fun i => !(listed.setIfInBounds j true).getD i false) (List.range ops.size) j (List.mem_range.2 hlt) (by simp [hun]) (by simp [(hset j).2 (.inr rfl)])
            (fun i hi => by
              simp only [Bool.not_eq_true'] at hi ⊢
              cases hc : listed.getD i false with
              | false => rfl
              | true => rw [(hset i).2 (.inl hc)] at hi; cases hi)
          omega
        have hcl' : ∀ i o e, (listed.setIfInBounds j true).getD i false = true → ops.toList[i]? = some o → e ∈ o.after → Region.binds .any e = true → (listed.setIfInBounds j true).getD e.on false = true := by
          intro i o' e hi ho' he hb
          rcases (hset i).1 hi with hi | rfl
          · exact (hset _).2 (.inl (hcl i o' e hi ho' he hb))
          · rw [hop ho] at ho'; cases ho'
            exact (hset _).2 (.inl (hafter e he hb))
        refine guarded_wpOp ho ?_
        cases hB : (gs[j]'(by omega)).op.isB with
        | false =>
          have hBm : ∀ i g, m ≤ i → i < j → gs[i]? = some g → g.op.isB = false := by
            intro i g q1 q2 q3
            cases hb : g.op.isB with
            | false => rfl
            | true =>
              have := hreach i ((hD.ordB i g q3 hb j (by simpa using hlt)).2 q2)
              rw [hBL i g q1 this q3] at hb; cases hb
          obtain ⟨e, he, hSj⟩ := effOf_step (hR.at' j _ hg) hB
          have he' := hseg.eff (P := P) hD hR h0 hr hmj hg hBm hBL hreach he
          refine guardedA hS hr hG he' (fun k hk => ?_) (fun β' a' w' h' => ?_) Q
          · -- its names are new
            cases hl : σ.look k with
            | none => rfl
            | some o2 =>
              exfalso
              obtain ⟨_, d, hd⟩ := hD.keys j _ hg k hk
              obtain ⟨n, hn⟩ := keys_loc' hk
              rw [hd] at hn
              have := hseg.l1 k (fun i g' e' q1 q2 q3 q4 => by
                cases hi : lookH e'.ins k with
                | none => rfl
                | some o3 =>
                  obtain ⟨_, d', n', hd', hk'⟩ := insKey hD.toDrawBase q3 q4 hi
                  rw [hn] at hk'
                  injection hk' with e3
                  have e3 : d = d' := e3
                  subst e3
                  have := hD.dist i j g' _ d q3 hg hd' hd
                  subst this
                  rw [hun] at q2; cases q2)
              rw [this, fresh hD.toDrawBase hR h0 hg hk m hmj] at hl
              cases hl
          · refine ih _ a' w' m β' _ (by simpa using hsz) hcnt' hcl' hmn (fun i hi => (hset i).2 (.inl (hlow i hi))) (fun i g' q1 q2 q3 => ?_) (hseg.more hD hmj hg he (by rw [hun]; simp) hset) h'
            rcases (hset i).1 q2 with q2 | rfl
            · exact hBL i g' q1 q2 q3
            · rw [hg] at q3; cases q3; exact hB
        | true =>
          have ho1 := hD.ordB j _ hg hB
          have hlow' : ∀ i, i < j → listed.getD i false = true := fun i hi => hreach i ((ho1 i (by simp; omega)).1 hi)
          have hhigh : ∀ i, j ≤ i → i < ops.size → ¬ listed.getD i false = true := by
            intro i q1 q2 q3
            by_cases e : i = j
            · subst e; rw [hun] at q3; cases q3
            · have := (ho1 i (by simpa using q2)).2 (by omega)
              have := reach_listed (L := fun i => listed.getD i false = true) hcl this (fun o' e ho' he hb => hcl i o' e q3 ho' he hb)
              rw [hun] at this; cases this
          have ht := Seg.text (cl := cl) hD hR m j hmj (by omega) (fun i g q1 q2 q3 => hBL i g q1 (hlow' i q2) q3)
          obtain ⟨q1, q2⟩ := Seg.same hR hseg ht (fun i q1 q2 => ⟨fun q3 => by
            by_cases hh : i < j
            · exact hh
            · exact absurd q3 (hhigh i (by omega) (by omega)), fun q3 => hlow' i q3⟩) hBL
          have hrr := hr.congr q1 q2
          have hst : step cl false (S j) (gs[j]'(by omega)) = some (S (j + 1)) := by
            have := hR.at' j _ hg
            unfold step at this ⊢
            rw [hB] at this ⊢
            exact this
          refine guardedS hS hrr hG hst (fun β' a' w' h' => ?_) Q
          refine ih _ a' w' (j + 1) β' _ (by simpa using hsz) hcnt' hcl' (by omega) (fun i hi => (hset i).2 ?_) (fun i g' q1 q2 q3 => ?_) (Seg.empty (j + 1) (fun i q1 q2 q3 => ?_)) h'
          · by_cases e : i = j
            · exact .inr e
            · exact .inl (hlow' i (by omega))
          · rcases (hset i).1 q2 with q2 | rfl
            · exact absurd q2 (hhigh i (by omega) (by have := (List.getElem?_eq_some_iff.1 q3).1; omega))
            · omega
          · rcases (hset i).1 q3 with q3 | rfl
            · exact hhigh i (by omega) (by omega) q3
            · omega
  have hk := (h.killAll ks).heap (w' := { w with drawn := w.drawn + 1 }) rfl (Quiet.drawn w _)
  have hrep : ∀ i, (Array.replicate ops.size false).getD i false = false := fun i => by simp only [Array.getD_eq_getD_getElem?, Array.getElem?_replicate]; split <;> rfl
  refine main ops.size _ a _ 0 β _ (by simp) ?_ (fun i o e hi => by rw [hrep] at hi; cases hi) (Nat.zero_le _) (fun i hi => by omega) (fun i g _ hi => by rw [hrep] at hi; cases hi) ?_ hk
  · refine Nat.le_trans (List.length_filter_le _ _) (by simp)
  · rw [← e1]
    exact Seg.empty 0 (fun i _ _ q => by rw [hrep] at q; cases q)

end
end Go.Av
