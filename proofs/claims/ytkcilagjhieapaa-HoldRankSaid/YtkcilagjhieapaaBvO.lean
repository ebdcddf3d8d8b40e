/- Regions whose order is drawn, with operations that no order binds to a store. -/
import Derived.Test.YtkcilagjhieapaaBvJ
set_option linter.unusedVariables false
set_option linter.unusedSimpArgs false
namespace Go.Av

/-- Does an operation read what lies in variables and rows? -/
def AOp.reads : AOp → Bool
  | .load .. | .call .. | .ins .. | .mlook .. | .mlen .. => true
  | _ => false

def AOp.isStore : AOp → Bool
  | .store .. => true
  | _ => false

/-- The second state has variables and rows of the same shape, as far as a value leads. -/
def Shapes (σ1 σ2 : St) (v : SV) : Prop := ∀ k o, v.names k = true → σ1.look k = some o → ∃ o', σ2.look k = some o' ∧ o.sim o'

section
variable {σ1 σ2 : St}

theorem aeff_sim {cl : Callee} {d : Nat} {op : AOp} {e : Eff} (hr : op.reads = false) (hev : ∀ x ∈ op.opds, σ2.ev x = σ1.ev x) (hlk : ∀ x ∈ op.opds, Shapes σ1 σ2 (σ1.ev x)) (h : aeff cl σ1 d op = some e) : aeff cl σ2 d op = some e := by
  cases op with
  | load agg n x => cases hr
  | call keep m f args fz ln => cases hr
  | mlook kk ok z x k => cases hr
  | mlen x => cases hr
  | mkmap kk => exact h
  | mset kk x k v => cases h
  | idx sz x i =>
    have e1 := hev x (by simp [AOp.opds])
    have e2 := hev i (by simp [AOp.opds])
    have c1 := hlk x (by simp [AOp.opds])
    simp only [aeff, e1, e2] at h ⊢
    revert h c1
    generalize σ1.ev x = xv
    intro h c1
    split at h
    · exact h
    · rename_i k q n hn
      split at h
      · rename_i sz' xs hk
        obtain ⟨o', h1, h2⟩ := c1 _ _ (by simp [SV.names]) hk
        rw [h1]
        cases o' with
        | box _ => simp [HObj.sim] at h2
        | map _ _ => simp [HObj.sim] at h2
        | row sz2 ys =>
          simp only [HObj.sim] at h2
          simp only [← h2.1, ← h2.2]
          exact h
      · cases h
    · cases h
  | len s x =>
    have e1 := hev x (by simp [AOp.opds])
    have c1 := hlk x (by simp [AOp.opds])
    cases s with
    | true => simp only [aeff, e1] at h ⊢; exact h
    | false =>
      simp only [aeff, e1] at h ⊢
      revert h c1
      generalize σ1.ev x = xv
      intro c1 h
      cases xv with
      | own k =>
        simp only [St.elems] at h ⊢
        cases hk : σ1.look k with
        | none => rw [hk] at h; cases h
        | some o =>
          rw [hk] at h
          cases o with
          | box _ => cases h
          | map _ _ => cases h
          | row sz xs =>
            obtain ⟨o', h1, h2⟩ := c1 _ _ (by simp [SV.names]) hk
            rw [h1]
            cases o' with
            | box _ => simp [HObj.sim] at h2
            | map _ _ => simp [HObj.sim] at h2
            | row sz2 ys =>
              simp only [HObj.sim] at h2
              simp only [← h2.2]
              exact h
      | pv p => cases p <;> exact h
      | _ => exact h
  | build zero ps =>
    have e1 : ∀ p ∈ ps, σ2.ev p.2.2 = σ1.ev p.2.2 := fun p hp => hev _ (by simp only [AOp.opds, List.mem_map]; exact ⟨p, hp, rfl⟩)
    have e2 : ps.map (fun p => (p.1, p.2.1, σ2.ev p.2.2)) = ps.map (fun p => (p.1, p.2.1, σ1.ev p.2.2)) := List.map_congr_left (fun p hp => by rw [e1 p hp])
    have e3 : ps.all (fun p => (σ2.ev p.2.2).solid) = ps.all (fun p => (σ1.ev p.2.2).solid) := by
      rw [Bool.eq_iff_iff, List.all_eq_true, List.all_eq_true]
      exact ⟨fun h p hp => by rw [← e1 p hp]; exact h p hp, fun h p hp => by rw [e1 p hp]; exact h p hp⟩
    simp only [aeff, e2, e3] at h ⊢
    exact h
  | lit keep sz xs =>
    cases xs with
    | nil => exact h
    | cons y ys =>
      have e2 : (y :: ys).map σ2.ev = (y :: ys).map σ1.ev := map_ev (fun x hx => hev x hx)
      simp only [aeff, e2] at h ⊢
      exact h
  | mkfn f caps =>
    have e2 : caps.map σ2.ev = caps.map σ1.ev := map_ev (fun x hx => hev x hx)
    simp only [aeff, e2] at h ⊢
    exact h
  | mm mx x xs =>
    have e1 := hev x (by simp [AOp.opds])
    have e2 : xs.map σ2.ev = xs.map σ1.ev := map_ev (fun x hx => hev x (by simp [AOp.opds, hx]))
    simp only [aeff, e1, e2] at h ⊢
    exact h
  | slc s sz x lo hi =>
    have e1 := hev x (by simp [AOp.opds])
    have e2 : ∀ d t, bound σ2 d t lo = bound σ1 d t lo := fun d t => bound_local (fun y hy => hev y (by simp [AOp.opds, hy]))
    have e3 : ∀ d t, bound σ2 d t hi = bound σ1 d t hi := fun d t => bound_local (fun y hy => hev y (by simp [AOp.opds, hy]))
    cases s <;> simp only [aeff, e1, e2, e3] at h ⊢ <;> exact h
  | alloc zero => exact h
  | store n x y => cases h
  | append kd s b x y => cases h
  | ins f sz by' x i y => cases hr
  | stuck => cases h
  | pick c x y =>
    have e1 := hev c (by simp [AOp.opds])
    have e2 := hev x (by simp [AOp.opds])
    have e3 := hev y (by simp [AOp.opds])
    simp only [aeff, e1, e2, e3] at h ⊢
    exact h
  | bin b op x y =>
    have e2 := hev x (by simp [AOp.opds])
    have e3 := hev y (by simp [AOp.opds])
    simp only [aeff, e2, e3] at h ⊢
    exact h
  | eqs b n x y =>
    have e2 := hev x (by simp [AOp.opds])
    have e3 := hev y (by simp [AOp.opds])
    simp only [aeff, e2, e3] at h ⊢
    exact h
  | sidx x y =>
    have e2 := hev x (by simp [AOp.opds])
    have e3 := hev y (by simp [AOp.opds])
    simp only [aeff, e2, e3] at h ⊢
    exact h
  | mk s b z x y =>
    have e2 := hev x (by simp [AOp.opds])
    have e3 := hev y (by simp [AOp.opds])
    simp only [aeff, e2, e3] at h ⊢
    exact h
  | mov x => simp only [aeff, hev x (by simp [AOp.opds])] at h ⊢; exact h
  | box x => simp only [aeff, hev x (by simp [AOp.opds])] at h ⊢; exact h
  | un _ x => simp only [aeff, hev x (by simp [AOp.opds])] at h ⊢; exact h
  | conv _ x => simp only [aeff, hev x (by simp [AOp.opds])] at h ⊢; exact h
  | fld _ x => simp only [aeff, hev x (by simp [AOp.opds])] at h ⊢; exact h
  | part _ _ _ x => simp only [aeff, hev x (by simp [AOp.opds])] at h ⊢; exact h
  | ext _ x => simp only [aeff, hev x (by simp [AOp.opds])] at h ⊢; exact h


end
end Go.Av
