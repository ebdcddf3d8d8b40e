/- Calls of whole functions. -/
import Derived.Test.YtkcilagjhieapaaBvL
set_option linter.unusedVariables false
set_option linter.unusedSimpArgs false
namespace Go.Av

def agreeF (P : Program) (fn : Func) (fd : Fd) : Bool :=
  decide (fd.np ≤ fn.ntmps) && !(fn.name == "runtime.NumGoroutine") && (decide fd.out.Nodup && fd.out.all Key.noExt) && all2 (agreeR P) fn.results.toList fd.res &&
  (match fn.body with | some c => agreeCode P fn.ntmps c fd.body | none => false)

section
variable {P : Program} {cl : Callee}

theorem slotsOf_get : ∀ (args : List SV) (i t : Nat), getS (slotsOf i args) t = if i ≤ t then args.getD (t - i) .dead else .dead
  | [], i, t => by simp [slotsOf, getS]
  | v :: vs, i, t => by
    simp only [slotsOf, getS]
    rw [slotsOf_get vs (i + 1) t]
    by_cases h : i = t
    · subst h; simp
    · have hb : (i == t) = false := by simpa using h
      rw [hb, cond_false]
      by_cases h2 : i ≤ t
      · rw [if_pos (by omega), if_pos h2, show t - i = (t - (i + 1)) + 1 by omega]
        simp
      · rw [if_neg (by omega), if_neg h2]

/-- The state at a call's start. -/
theorem enter_rr {w : World} {vs : List Value} {γ : Nat → Blk} {ok : Nat → Prop} {args : List SV} {ext : List HObj} {nt : Nat} (hok : ∀ b, ok b → b < w.heap.size ∧ ∀ i, i < ext.length → (γ i).b ≠ some b)
    (hinj : ∀ i j b, i < ext.length → j < ext.length → (γ i).b = some b → (γ j).b = some b → i = j) (hobj : ∀ i o, ext[i]? = some o → HLies w ok (argβ γ) (argLk ext) o (γ i)) (hl : args.length = vs.length)
    (hargs : ∀ (j : Nat) (x : SV) (v : Value), args[j]? = some x → vs[j]? = some v → SLies w ok (argβ γ) (argLk ext) x v) (hnt : args.length ≤ nt) :
    RR ⟨w, ext, γ, nt, ok, []⟩ (argβ γ) (enter args ext) { tmps := vs.toArray ++ Array.replicate (nt - vs.toArray.size) undef, defers := [] } w := by
  have hlook : (enter args ext).look = argLk ext := rfl
  have hback : ∀ k o, (enter args ext).look k = some o → ∃ i, k = .ext i ∧ i < ext.length ∧ ext[i]? = some o := fun k o h => by
    obtain ⟨i, h1, h2⟩ := extsOf_back ext 0 k o h
    exact ⟨i, by simpa using h1, (List.getElem?_eq_some_iff.1 h2).1, h2⟩
  have hok' : ∀ b, ok b → okB ⟨w, ext, γ, nt, ok, []⟩ (argβ γ) (enter args ext).look w b := fun b hb => by
    refine ⟨(hok b hb).1, fun k o h => ?_, fun _ => .inl hb⟩
    obtain ⟨i, rfl, hi, _⟩ := hback k o h
    exact (hok b hb).2 i hi
  refine ⟨?_, rfl, ?_, ?_, ?_, ?_, ?_, Nat.le_refl _, fun b _ _ => rfl, Quiet.refl _⟩
  · simp; omega
  · intro k k' o o' b h1 h2 e1 e2
    obtain ⟨i, rfl, hi, _⟩ := hback k o h1
    obtain ⟨j, rfl, hj, _⟩ := hback k' o' h2
    rw [hinj i j b hi hj e1 e2]
  · intro k o h
    obtain ⟨i, rfl, hi, hx⟩ := hback k o h
    exact (hobj i o hx).same hok' (fun k o h => ⟨o, h, o.sim_refl⟩)
  · intro k o b h hx
    obtain ⟨i, rfl, hi, _⟩ := hback k o h
    exact .inr ⟨i, hi, hx⟩
  · intro i o h
    obtain ⟨j, e, hj, hx⟩ := hback _ o h
    injection e with e
    subst e
    exact ⟨o, hx, o.sim_refl, rfl⟩
  · intro t
    have hg : (enter args ext).get t = args.getD t .dead := by
      have := slotsOf_get args 0 t
      simpa [enter, St.get] using this
    rw [hg]
    by_cases ht : t < args.length
    · have h1 : args[t]? = some args[t] := List.getElem?_eq_getElem ht
      have h2 : vs[t]? = some (vs[t]'(by omega)) := List.getElem?_eq_getElem (by omega)
      have hs := hargs t _ _ h1 h2
      have e1 : args.getD t .dead = args[t] := by simp [List.getD, ht]
      have e2 : (vs.toArray ++ Array.replicate (nt - vs.toArray.size) undef).getD t undef = vs[t]'(by omega) := by
        have : t < vs.length := by omega
        simp [Array.getD_eq_getD_getElem?, Array.getElem?_append, this]
      rw [e1, e2]
      exact hs.mono (fun b _ off u hu => hu) hok' (fun k o h => ⟨o, h, o.sim_refl, rfl⟩)
    · have e1 : args.getD t .dead = .dead := by simp [List.getD, List.getElem?_eq_none_iff.2 (by omega : args.length ≤ t)]
      rw [e1]; exact .dead _

end
end Go.Av
