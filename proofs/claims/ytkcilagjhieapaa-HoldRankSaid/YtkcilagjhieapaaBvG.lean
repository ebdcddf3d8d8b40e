/- What an operation looks at is all it depends on. -/
import Derived.Test.YtkcilagjhieapaaBvF
set_option linter.unusedVariables false
set_option linter.unusedSimpArgs false
namespace Go.Av

def optL : Option Opd → List Opd
  | none => []
  | some x => [x]

/-- What an operation looks at. -/
def AOp.opds : AOp → List Opd
  | .mov x => [x]
  | .pick c a b => [c, a, b]
  | .alloc _ => []
  | .box x => [x]
  | .load _ _ x => [x]
  | .store _ a v => [a, v]
  | .bin _ _ x y => [x, y]
  | .eqs _ _ x y => [x, y]
  | .un _ x => [x]
  | .conv _ x => [x]
  | .fld _ x => [x]
  | .part _ _ _ x => [x]
  | .idx _ x i => [x, i]
  | .sidx x i => [x, i]
  | .ext _ x => [x]
  | .build _ ps => ps.map (·.2.2)
  | .lit _ _ xs => xs
  | .mk _ _ _ n c => [n, c]
  | .slc _ _ x lo hi => x :: (optL lo ++ optL hi)
  | .len _ x => [x]
  | .mm _ x xs => x :: xs
  | .mkfn _ caps => caps
  | .call _ _ f args _ _ => f :: args
  | .append _ _ _ x y => [x, y]
  | .ins _ _ _ x i y => [.tmp x, i, y]
  | .mkmap _ => []
  | .mlook _ _ _ x k => [x, k]
  | .mset _ x k v => [x, k, v]
  | .mlen x => [x]
  | .stuck => []

section
variable {σ1 σ2 : St}

/-- The second state has what the first has, as far as a value leads. -/
def Covers (σ1 σ2 : St) (v : SV) : Prop := ∀ k o, v.names k = true → σ1.look k = some o → σ2.look k = some o

theorem covers_mem {v : SV} {cs : List SV} (h : ∀ k o, SV.names.namesL k cs = true → σ1.look k = some o → σ2.look k = some o) {c : SV} (hc : c ∈ cs) : Covers σ1 σ2 c := by
  intro k o hn hk
  obtain ⟨j, hj, he⟩ := List.getElem_of_mem hc
  exact h k o (names_mem (j := j) (x := c) (by rw [List.getElem?_eq_getElem hj, he]) hn) hk

theorem elems_local {v : SV} {xs : List PV} (hc : Covers σ1 σ2 v) (h : σ1.elems v = some xs) : σ2.elems v = some xs := by
  cases v with
  | own k =>
    simp only [St.elems] at h ⊢
    cases hk : σ1.look k with
    | none => rw [hk] at h; cases h
    | some o =>
      rw [hc k _ (by simp [SV.names]) hk]
      rw [hk] at h
      exact h
  | pv x => cases x <;> exact h
  | _ => exact h

theorem pureL_cons {σ : St} {c : SV} {cs : List SV} {xs : List PV} : St.pure.pureL σ (c :: cs) = some xs ↔ (∀ l, c ≠ .agg l) ∧ ∃ x ys, σ.pure c = some x ∧ St.pure.pureL σ cs = some ys ∧ xs = x :: ys := by
  simp only [St.pure.pureL]
  cases c with
  | agg l => simp
  | _ =>
    generalize St.pure σ _ = q
    cases q with
    | none => simp
    | some x =>
      simp only
      cases St.pure.pureL σ cs with
      | none => simp
      | some ys => simp; exact eq_comm

mutual
theorem pure_local : ∀ {v : SV} {p : PV}, Covers σ1 σ2 v → σ1.pure v = some p → σ2.pure v = some p
  | .pv x, p, _, h => h
  | .nils, p, _, h => h
  | .own k, p, hc, h => by
    simp only [St.pure] at h ⊢
    split at h
    · rename_i sz ys hk
      rw [hc k _ (by simp [SV.names]) hk]
      exact h
    · cases h
  | .agg cs, p, hc, h => by
    simp only [St.pure, Option.map_eq_some_iff] at h ⊢
    obtain ⟨xs, hx, rfl⟩ := h
    exact ⟨xs, pureL_local (fun k o hn => hc k o (by simpa [SV.names] using hn)) hx, rfl⟩
  | .fn f [], p, _, h => h
  | .fn f (c :: cs), p, _, h => by simp [St.pure] at h
  | .ptr _ _, p, _, h => by simp [St.pure] at h
  | .iown _ _ _, p, _, h => by simp [St.pure] at h
  | .ipv _ _, p, _, h => by simp [St.pure] at h
  | .tup _, p, _, h => by simp [St.pure] at h
  | .dead, p, _, h => by simp [St.pure] at h
theorem pureL_local : ∀ {cs : List SV} {xs : List PV}, (∀ k o, SV.names.namesL k cs = true → σ1.look k = some o → σ2.look k = some o) → St.pure.pureL σ1 cs = some xs → St.pure.pureL σ2 cs = some xs
  | [], xs, _, h => by simpa [St.pure.pureL] using h
  | c :: cs, xs, hc, h => by
    have h1 : Covers σ1 σ2 c := fun k o hn => hc k o (by simp [SV.names.namesL, hn])
    have h2 : ∀ k o, SV.names.namesL k cs = true → σ1.look k = some o → σ2.look k = some o := fun k o hn => hc k o (by simp [SV.names.namesL, hn])
    obtain ⟨hne, x, ys, hx, hy, rfl⟩ := pureL_cons.1 h
    exact pureL_cons.2 ⟨hne, x, ys, pure_local h1 hx, pureL_local h2 hy, rfl⟩
end

mutual
theorem clean_pure {σ : St} : ∀ {v : SV} {p : PV}, v.clean = some p → σ.pure v = some p
  | .pv x, p, h => h
  | .nils, p, h => h
  | .agg cs, p, h => by
    simp only [SV.clean, Option.map_eq_some_iff] at h
    obtain ⟨xs, h1, rfl⟩ := h
    simp only [St.pure, cleanL_pure h1, Option.map_some]
  | .fn f [], p, h => h
  | .fn f (c :: cs), p, h => by simp [SV.clean] at h
  | .ptr _ _, p, h => by simp [SV.clean] at h
  | .own _, p, h => by simp [SV.clean] at h
  | .mp _, p, h => by simp [SV.clean] at h
  | .iown _ _ _, p, h => by simp [SV.clean] at h
  | .ipv _ _, p, h => by simp [SV.clean] at h
  | .tup _, p, h => by simp [SV.clean] at h
  | .dead, p, h => by simp [SV.clean] at h
theorem cleanL_pure {σ : St} : ∀ {cs : List SV} {xs : List PV}, SV.clean.cleanL cs = some xs → St.pure.pureL σ cs = some xs
  | [], xs, h => h
  | c :: cs, xs, h => by
    have key : ∃ x r, (∀ l, c ≠ .agg l) ∧ c.clean = some x ∧ SV.clean.cleanL cs = some r ∧ xs = x :: r := by
      cases hc : c.clean with
      | none => cases c <;> simp [SV.clean.cleanL, hc] at h
      | some x =>
        cases hr : SV.clean.cleanL cs with
        | none => cases c <;> simp [SV.clean.cleanL, hc, hr] at h
        | some r => cases c <;> simp [SV.clean.cleanL, hc, hr] at h <;> exact ⟨x, r, by simp, rfl, rfl, h.symm⟩
    obtain ⟨x, r, h0, h1, h2, rfl⟩ := key
    exact pureL_cons.2 ⟨h0, x, r, clean_pure h1, cleanL_pure h2, rfl⟩
end

mutual
theorem pure_bare {σ σ' : St} : ∀ {v : SV}, v.bare = true → σ'.pure v = σ.pure v
  | .pv x, _ => rfl
  | .nils, _ => rfl
  | .agg cs, h => by simp only [St.pure, pureL_bare (σ := σ) (σ' := σ') (cs := cs) (by simpa [SV.bare] using h)]
  | .fn f [], _ => rfl
  | .fn f (c :: cs), _ => by simp [St.pure]
  | .ptr _ _, h => by simp [SV.bare] at h
  | .own _, h => by simp [SV.bare] at h
  | .mp _, h => by simp [SV.bare] at h
  | .iown _ _ _, h => by simp [SV.bare] at h
  | .ipv _ _, _ => by simp [St.pure]
  | .tup _, _ => by simp [St.pure]
  | .dead, _ => by simp [St.pure]
theorem pureL_bare {σ σ' : St} : ∀ {cs : List SV}, SV.bare.bareL cs = true → St.pure.pureL σ' cs = St.pure.pureL σ cs
  | [], _ => rfl
  | c :: cs, h => by
    simp only [SV.bare.bareL, Bool.and_eq_true] at h
    simp only [St.pure.pureL, pure_bare (σ := σ) (σ' := σ') h.1, pureL_bare (σ := σ) (σ' := σ') h.2]
end

theorem seen_local {v : SV} (hc : Covers σ1 σ2 v) (hb : (σ1.seen v).bare = true) : σ2.seen v = σ1.seen v := by
  unfold St.seen at hb ⊢
  cases h1 : σ1.pure v with
  | some p => rw [pure_local hc h1]
  | none =>
    rw [h1] at hb
    simp only at hb ⊢
    have hcl : v.clean = none := by
      cases h2 : v.clean with
      | none => rfl
      | some p => rw [clean_pure (σ := σ1) h2] at h1; cases h1
    unfold SV.tidy at hb
    rw [hcl] at hb
    rw [pure_bare (σ := σ1) (σ' := σ2) hb, h1]

theorem map_ev {xs : List Opd} (h : ∀ x ∈ xs, σ2.ev x = σ1.ev x) : xs.map σ2.ev = xs.map σ1.ev := List.map_congr_left h

theorem bound_local {o : Option Opd} {d t : Nat} (h : ∀ x ∈ optL o, σ2.ev x = σ1.ev x) : bound σ2 d t o = bound σ1 d t o := by
  cases o with
  | none => rfl
  | some x => simp only [bound, h x (by simp [optL])]

theorem aeff_local {cl : Callee} {d : Nat} {op : AOp} {e : Eff} (hev : ∀ x ∈ op.opds, σ2.ev x = σ1.ev x) (hlk : ∀ x ∈ op.opds, Covers σ1 σ2 (σ1.ev x)) (h : aeff cl σ1 d op = some e) : aeff cl σ2 d op = some e := by
  cases op with
  | load agg n x =>
    have e1 := hev x (by simp [AOp.opds])
    have c1 := hlk x (by simp [AOp.opds])
    simp only [aeff, e1] at h ⊢
    revert h c1
    generalize σ1.ev x = xv
    intro h c1
    cases xv <;> simp only at h ⊢ <;> try (first | exact h | cases h; done)
    · split at h
      · rename_i cs hk
        rw [c1 _ _ (by simp [SV.names]) hk]
        exact h
      · cases h
    · split at h
      · rename_i sz xs hk
        rw [c1 _ _ (by simp [SV.names]) hk]
        exact h
      · cases h
  | idx sz x i =>
    have e1 := hev x (by simp [AOp.opds])
    have e2 := hev i (by simp [AOp.opds])
    have c1 := hlk x (by simp [AOp.opds])
    simp only [aeff, e1, e2] at h ⊢
    revert h c1
    generalize σ1.ev x = xv
    intro h c1
    split at h
    · exact h
    · rename_i k q n hn
      split at h
      · rename_i sz' xs hk
        rw [c1 _ _ (by simp [SV.names]) hk]
        exact h
      · cases h
    · cases h
  | len s x =>
    have e1 := hev x (by simp [AOp.opds])
    have c1 := hlk x (by simp [AOp.opds])
    cases s with
    | true => simp only [aeff, e1] at h ⊢; exact h
    | false =>
      simp only [aeff, e1] at h ⊢
      split at h
      · rename_i xs hx
        rw [elems_local c1 hx]; exact h
      · cases h
  | call keep m f args fz ln =>
    have e1 := hev f (by simp [AOp.opds])
    have e2 : args.map σ2.ev = args.map σ1.ev := map_ev (fun x hx => hev x (by simp [AOp.opds, hx]))
    have et : σ2.target f = σ1.target f := by simp only [St.target, e1]
    simp only [aeff, et, e2] at h ⊢
    cases hcond : (decide (2 ≤ m) || !fz.isEmpty || !ln.isEmpty) with
    | true => rw [hcond] at h; cases h
    | false =>
      rw [hcond, cond_false] at h
      rw [cond_false]
      split at h
      · rename_i g caps ht
        cases hm : (m == 0) with
        | true => rw [hm] at h; exact h
        | false =>
          rw [hm] at h
          simp only [cond_false] at h ⊢
          cases hbare : (List.map (fun v => σ1.seen v) (List.map σ1.ev args ++ caps)).all SV.bare with
          | false => rw [hbare] at h; cases h
          | true =>
            have hall := List.all_eq_true.1 hbare
            have e3 : List.map (fun v => σ2.seen v) (List.map σ1.ev args ++ caps) = List.map (fun v => σ1.seen v) (List.map σ1.ev args ++ caps) := by
              refine List.map_congr_left (fun v hv => seen_local ?_ (hall _ (List.mem_map.2 ⟨v, hv, rfl⟩)))
              rcases List.mem_append.1 hv with hv | hv
              · obtain ⟨x, hx, rfl⟩ := List.mem_map.1 hv
                exact hlk x (by simp [AOp.opds, hx])
              · have c1 := hlk f (by simp [AOp.opds])
                unfold St.target at ht
                split at ht
                · cases ht; simp at hv
                · rename_i g' caps' hf
                  cases ht
                  rw [hf] at c1
                  exact covers_mem (v := .dead) (fun k o hn => c1 k o (by simpa [SV.names] using hn)) hv
                · cases ht
            rw [e3]
            exact h
      · cases h
  | mkmap kk => exact h
  | mset kk x k v => cases h
  | mlook kk ok z x k =>
    have e1 := hev x (by simp [AOp.opds])
    have c1 := hlk x (by simp [AOp.opds])
    have e2 := hev k (by simp [AOp.opds])
    simp only [aeff, e1, e2] at h ⊢
    split at h
    · rename_i key kv hk hv
      rw [hk] at c1
      split at h
      · rename_i kk' es hl
        rw [c1 key _ (by simp [SV.names]) hl]
        exact h
      · cases h
    · cases h
  | mlen x =>
    have e1 := hev x (by simp [AOp.opds])
    have c1 := hlk x (by simp [AOp.opds])
    simp only [aeff, e1] at h ⊢
    split at h
    · rename_i key hk
      rw [hk] at c1
      split at h
      · rename_i kk' es hl
        rw [c1 key _ (by simp [SV.names]) hl]
        exact h
      · cases h
    · cases h
  | build zero ps =>
    have e1 : ∀ p ∈ ps, σ2.ev p.2.2 = σ1.ev p.2.2 := fun p hp => hev _ (by simp only [AOp.opds, List.mem_map]; exact ⟨p, hp, rfl⟩)
    have e2 : ps.map (fun p => (p.1, p.2.1, σ2.ev p.2.2)) = ps.map (fun p => (p.1, p.2.1, σ1.ev p.2.2)) := List.map_congr_left (fun p hp => by rw [e1 p hp])
    have e3 : ps.all (fun p => (σ2.ev p.2.2).solid) = ps.all (fun p => (σ1.ev p.2.2).solid) := by
      rw [Bool.eq_iff_iff, List.all_eq_true, List.all_eq_true]
      exact ⟨fun h p hp => by rw [← e1 p hp]; exact h p hp, fun h p hp => by rw [e1 p hp]; exact h p hp⟩
    simp only [aeff, e2, e3] at h ⊢
    exact h
  | lit keep sz xs =>
    cases xs with
    | nil => exact h
    | cons y ys =>
      have e2 : (y :: ys).map σ2.ev = (y :: ys).map σ1.ev := map_ev (fun x hx => hev x hx)
      simp only [aeff, e2] at h ⊢
      exact h
  | mkfn f caps =>
    have e2 : caps.map σ2.ev = caps.map σ1.ev := map_ev (fun x hx => hev x hx)
    simp only [aeff, e2] at h ⊢
    exact h
  | mm mx x xs =>
    have e1 := hev x (by simp [AOp.opds])
    have e2 : xs.map σ2.ev = xs.map σ1.ev := map_ev (fun x hx => hev x (by simp [AOp.opds, hx]))
    simp only [aeff, e1, e2] at h ⊢
    exact h
  | slc s sz x lo hi =>
    have e1 := hev x (by simp [AOp.opds])
    have e2 : ∀ d t, bound σ2 d t lo = bound σ1 d t lo := fun d t => bound_local (fun y hy => hev y (by simp [AOp.opds, hy]))
    have e3 : ∀ d t, bound σ2 d t hi = bound σ1 d t hi := fun d t => bound_local (fun y hy => hev y (by simp [AOp.opds, hy]))
    cases s <;> simp only [aeff, e1, e2, e3] at h ⊢ <;> exact h
  | alloc zero => exact h
  | store n x y => cases h
  | append kd s b x y => cases h
  | ins f sz by' x i y =>
    have e0 : σ2.get x = σ1.get x := hev (.tmp x) (by simp [AOp.opds])
    have c0 : Covers σ1 σ2 (σ1.get x) := hlk (.tmp x) (by simp [AOp.opds])
    have e1 := hev i (by simp [AOp.opds])
    have e2 := hev y (by simp [AOp.opds])
    have c2 := hlk y (by simp [AOp.opds])
    simp only [aeff, e0, e1, e2] at h ⊢
    split at h
    · rename_i k n k2 hk hi hk2
      rw [hk] at c0
      rw [hk2] at c2
      split at h
      · rename_i s1 xs s2 e h1 h2
        rw [c0 k _ (by simp [SV.names]) h1, c2 k2 _ (by simp [SV.names]) h2]
        exact h
      · cases h
    · cases h
  | stuck => cases h
  | pick c x y =>
    have e1 := hev c (by simp [AOp.opds])
    have e2 := hev x (by simp [AOp.opds])
    have e3 := hev y (by simp [AOp.opds])
    simp only [aeff, e1, e2, e3] at h ⊢
    exact h
  | bin b op x y =>
    have e2 := hev x (by simp [AOp.opds])
    have e3 := hev y (by simp [AOp.opds])
    simp only [aeff, e2, e3] at h ⊢
    exact h
  | eqs b n x y =>
    have e2 := hev x (by simp [AOp.opds])
    have e3 := hev y (by simp [AOp.opds])
    simp only [aeff, e2, e3] at h ⊢
    exact h
  | sidx x y =>
    have e2 := hev x (by simp [AOp.opds])
    have e3 := hev y (by simp [AOp.opds])
    simp only [aeff, e2, e3] at h ⊢
    exact h
  | mk s b z x y =>
    have e2 := hev x (by simp [AOp.opds])
    have e3 := hev y (by simp [AOp.opds])
    simp only [aeff, e2, e3] at h ⊢
    exact h
  | mov x => simp only [aeff, hev x (by simp [AOp.opds])] at h ⊢; exact h
  | box x => simp only [aeff, hev x (by simp [AOp.opds])] at h ⊢; exact h
  | un _ x => simp only [aeff, hev x (by simp [AOp.opds])] at h ⊢; exact h
  | conv _ x => simp only [aeff, hev x (by simp [AOp.opds])] at h ⊢; exact h
  | fld _ x => simp only [aeff, hev x (by simp [AOp.opds])] at h ⊢; exact h
  | part _ _ _ x => simp only [aeff, hev x (by simp [AOp.opds])] at h ⊢; exact h
  | ext _ x => simp only [aeff, hev x (by simp [AOp.opds])] at h ⊢; exact h

end

/-! ### what an operation makes -/

theorem lookH_mem {l : List (Key × HObj)} {k : Key} {o : HObj} (h : lookH l k = some o) : ∃ p ∈ l, p.1 = k := by
  induction l with
  | nil => simp [lookH] at h
  | cons p l ih =>
    obtain ⟨i, v⟩ := p
    simp only [lookH] at h
    split at h
    · rename_i hi; exact ⟨(i, v), List.mem_cons_self, hi⟩
    · obtain ⟨q, hq, e⟩ := ih h; exact ⟨q, by simp [hq], e⟩

theorem took_keys {ks : List Key} {d keep : Nat} {r : Res} {e : Eff} (h : took ks d keep r = some e) {k : Key} {o : HObj} (hk : lookH e.ins k = some o) : ∃ i, i < keep ∧ k = .loc d i := by
  unfold took at h
  cases hb : (keep == 0) with
  | true =>
    rw [hb] at h
    simp only [cond_true, Option.map_eq_some_iff] at h
    obtain ⟨v, _, rfl⟩ := h
    simp [lookH] at hk
  | false =>
    rw [hb] at h
    simp only [cond_false] at h
    cases hle : decide (r.rows.length ≤ keep) with
    | false => rw [hle] at h; cases h
    | true =>
      rw [hle] at h
      simp only [cond_true, Option.some.injEq] at h
      subst h
      simp only [decide_eq_true_eq] at hle
      rw [rowsAt_look] at hk
      cases k with
      | loc d' i =>
        simp only at hk
        split at hk
        · rename_i hc
          simp only [Option.map_eq_some_iff] at hk
          obtain ⟨p, hp, _⟩ := hk
          have := (List.getElem?_eq_some_iff.1 (join_some hp)).1
          exact ⟨i, by omega, by rw [hc.1]⟩
        · cases hk
      | ext i => cases hk
      | res i => cases hk

theorem aeff_ins {cl : Callee} {σ : St} {d : Nat} {op : AOp} {e : Eff} (h : aeff cl σ d op = some e) {k : Key} {o : HObj} (hk : lookH e.ins k = some o) : k ∈ op.keys d := by
  have one : ∀ {k1 : Key} {o1 : HObj}, lookH [(k1, o1)] k = some o → k = k1 := fun h => by
    simp only [lookH] at h
    split at h
    · rename_i e; exact e.symm
    · cases h
  have nil : ∀ {v : SV}, e = ⟨v, []⟩ → False := fun he => by subst he; simp [lookH] at hk
  have mapnil : ∀ {x : Option SV}, x.map (fun v => (⟨v, []⟩ : Eff)) = some e → False := fun he => by
    simp only [Option.map_eq_some_iff] at he
    obtain ⟨v, _, rfl⟩ := he
    simp [lookH] at hk
  have mapnilP : ∀ {x : Option PV}, x.map (fun v => (⟨.pv v, []⟩ : Eff)) = some e → False := fun he => by
    simp only [Option.map_eq_some_iff] at he
    obtain ⟨v, _, rfl⟩ := he
    simp [lookH] at hk
  have mapnilB : ∀ {x : Option Bool} {f : Bool → SV}, x.map (fun v => (⟨f v, []⟩ : Eff)) = some e → False := fun he => by
    simp only [Option.map_eq_some_iff] at he
    obtain ⟨v, _, rfl⟩ := he
    simp [lookH] at hk
  cases op with
  | alloc zero =>
    simp only [aeff, Option.some.injEq] at h; subst h
    simp [AOp.keys, one hk]
  | box x =>
    simp only [aeff] at h
    split at h
    · cases h
    · cases h
    · simp only [Option.some.injEq] at h; subst h
      simp [AOp.keys, one hk]
  | lit keep sz xs =>
    cases xs with
    | nil => simp only [aeff, Option.some.injEq] at h; exact (nil h.symm).elim
    | cons y ys =>
    simp only [aeff] at h
    split at h
    · split at h
      · split at h
        · rename_i hkeep
          simp only [Option.some.injEq] at h; subst h
          simp [AOp.keys, hkeep, one hk]
        · simp only [Option.some.injEq] at h; exact (nil h.symm).elim
      · cases h
    · cases h
  | mk s b z n c =>
    simp only [aeff] at h
    split at h
    · split at h
      · simp only [Option.some.injEq] at h; subst h
        simp [AOp.keys, one hk]
      · cases h
    · cases h
  | call keep m f args fz ln =>
    have fin : ∀ r, took [] d keep r = some e → k ∈ (AOp.call keep m f args fz ln).keys d := fun r hr => by
      obtain ⟨i, hi, rfl⟩ := took_keys hr hk
      simp [AOp.keys]; exact hi
    simp only [aeff] at h
    cases hcond : (decide (2 ≤ m) || !fz.isEmpty || !ln.isEmpty) with
    | true => rw [hcond] at h; cases h
    | false =>
      rw [hcond, cond_false] at h
      split at h
      · rename_i g caps ht
        generalize List.map (fun v => bif m == 0 then v.tidy else σ.seen v) (List.map σ.ev args ++ caps) = vs at h
        cases hbare : vs.all SV.bare with
        | false => rw [hbare] at h; cases h
        | true =>
          rw [hbare, cond_true] at h
          split at h
          · rename_i r hr
            cases hc : (m == 0 || r.v.scalar && r.rows.isEmpty) with
            | false => rw [hc] at h; cases h
            | true => rw [hc] at h; exact fin _ h
          · cases h
      · cases h
  | mkmap kk =>
    simp only [aeff, Option.some.injEq] at h; subst h
    simp [AOp.keys, one hk]
  | mset kk x k v => cases h
  | mlook kk ok z x k =>
    simp only [aeff] at h
    split at h
    · split at h
      · simp only [cond_eq_ite] at h
        split at h
        · simp only [Option.some.injEq] at h; exact (nil h.symm).elim
        · cases h
      · cases h
    · cases h
  | mlen x =>
    simp only [aeff] at h
    split at h
    · split at h
      · simp only [Option.some.injEq] at h; exact (nil h.symm).elim
      · cases h
    · cases h
  | store n x y => cases h
  | append kd s b x y => cases h
  | ins f sz by' x i y =>
    simp only [aeff] at h
    split at h
    · split at h
      · rename_i s1 xs s2 e h1 h2
        simp only [cond_eq_ite] at h
        split at h
        · simp only [Option.some.injEq] at h
          subst h
          simp [AOp.keys, one hk]
        · cases h
      · cases h
    · cases h
  | stuck => cases h
  | mov x => simp only [aeff, Option.some.injEq] at h; exact (nil h.symm).elim
  | mkfn f caps =>
    simp only [aeff] at h
    split at h <;> simp only [Option.some.injEq] at h <;> exact (nil h.symm).elim
  | pick c x y =>
    simp only [aeff] at h
    split at h
    · simp only [Option.some.injEq] at h; exact (nil h.symm).elim
    · cases h
  | load agg n x =>
    simp only [aeff] at h
    split at h
    · split at h
      · split at h
        · exact (mapnil h).elim
        · cases h
      · cases h
    · split at h
      · exact (mapnil h).elim
      · cases h
    · split at h
      · split at h
        · split at h
          · exact (mapnil h).elim
          · cases h
        · cases h
      · cases h
    · cases h
  | bin b op x y =>
    simp only [aeff] at h
    split at h
    · rename_i p q _ _
      cases hb : (p.isB == b) with
      | true => rw [hb] at h; exact (mapnilP h).elim
      | false => rw [hb] at h; cases h
    · cases h
  | eqs b n x y =>
    simp only [aeff] at h
    split at h
    · exact (mapnilB h).elim
    · cases h
  | un op x =>
    simp only [aeff] at h
    split at h
    · exact (mapnilP h).elim
    · cases h
  | conv k x =>
    simp only [aeff] at h
    split at h
    · simp only [Option.some.injEq] at h; exact (nil h.symm).elim
    · cases h
  | fld off x =>
    simp only [aeff] at h
    split at h <;> first | (simp only [Option.some.injEq] at h; exact (nil h.symm).elim) | cases h
  | part agg off n x =>
    simp only [aeff] at h
    split at h
    · split at h
      · exact (mapnil h).elim
      · cases h
    · split at h
      · exact (mapnil h).elim
      · cases h
    · cases h
  | idx sz x i =>
    simp only [aeff] at h
    split at h
    · split at h
      · split at h
        · split at h
          · simp only [Option.some.injEq] at h; exact (nil h.symm).elim
          · cases h
        · cases h
      · cases h
    · split at h
      · split at h
        · simp only [Option.some.injEq] at h; exact (nil h.symm).elim
        · cases h
      · cases h
    · cases h
  | sidx x i =>
    simp only [aeff] at h
    split at h
    · split at h
      · split at h
        · simp only [Option.some.injEq] at h; exact (nil h.symm).elim
        · cases h
      · cases h
    · cases h
  | ext i x =>
    simp only [aeff] at h
    split at h
    · split at h
      · simp only [Option.some.injEq] at h; exact (nil h.symm).elim
      · cases h
    · cases h
  | build z ps =>
    simp only [aeff] at h
    cases hb : ps.all (fun p => (σ.ev p.2.2).solid) with
    | false => rw [hb] at h; cases h
    | true =>
      rw [hb, cond_true] at h
      split at h
      · exact (mapnil h).elim
      · cases h
  | slc s sz x lo hi =>
    cases s with
    | true =>
      simp only [aeff] at h
      split at h
      · split at h
        · split at h
          · simp only [Option.some.injEq] at h; exact (nil h.symm).elim
          · cases h
        · cases h
      · cases h
    | false =>
      simp only [aeff] at h
      split at h
      · split at h
        · split at h
          · split at h
            · simp only [Option.some.injEq] at h; exact (nil h.symm).elim
            · cases h
          · cases h
        · cases h
      · cases h
  | len s x =>
    cases s with
    | true =>
      simp only [aeff] at h
      split at h
      · simp only [Option.some.injEq] at h; exact (nil h.symm).elim
      · cases h
    | false =>
      simp only [aeff] at h
      split at h
      · simp only [Option.some.injEq] at h; exact (nil h.symm).elim
      · cases h
  | mm mx x xs =>
    simp only [aeff] at h
    split at h
    · exact (mapnilP h).elim
    · cases h

end Go.Av
