/- Calls of whole functions. -/
import Derived.Test.YtkcilagjhieapaaAvL
set_option linter.unusedVariables false
set_option linter.unusedSimpArgs false
namespace Go.Av

def agreeF (P : Program) (fn : Func) (fd : Fd) : Bool :=
  decide (fd.np ≤ fn.ntmps) && !(fn.name == "runtime.NumGoroutine") && all2 (agreeR P) fn.results.toList fd.res &&
  (match fn.body with | some c => agreeCode P fn.ntmps c fd.body | none => false)

section
variable {P : Program} {cl : Callee}

theorem slotsOf_get : ∀ (args : List SV) (i t : Nat), getS (slotsOf i args) t = if i ≤ t then args.getD (t - i) .dead else .dead
  | [], i, t => by simp [slotsOf, getS]
  | v :: vs, i, t => by
    simp only [slotsOf, getS]
    rw [slotsOf_get vs (i + 1) t]
    by_cases h : i = t
    · subst h; simp
    · have hb : (i == t) = false := by simpa using h
      rw [hb, cond_false]
      by_cases h2 : i ≤ t
      · rw [if_pos (by omega), if_pos h2, show t - i = (t - (i + 1)) + 1 by omega]
        simp
      · rw [if_neg (by omega), if_neg h2]

theorem extsOf_back : ∀ (ext : List (List PV)) (i0 : Nat) (k : Key) (o : HObj), lookH (extsOf i0 ext) k = some o → ∃ i xs, k = .ext (i0 + i) ∧ ext[i]? = some xs ∧ o = .box (xs.map .pv)
  | [], _, k, o, h => by simp [extsOf, lookH] at h
  | y :: ext, i0, k, o, h => by
    simp only [extsOf, lookH] at h
    split at h
    · rename_i e
      simp only [Option.some.injEq] at h
      exact ⟨0, y, e.symm, rfl, h.symm⟩
    · obtain ⟨i, xs, h1, h2, h3⟩ := extsOf_back ext (i0 + 1) k o h
      exact ⟨i + 1, xs, by rw [h1]; congr 1; omega, by simpa using h2, h3⟩

/-- The state at a call's start. -/
theorem enter_rr {w : World} {vs : List Value} {γ : Nat → Nat} {ok : Nat → Prop} {args : List SV} {ext : List (List PV)} {nt : Nat} (hok : ∀ b, ok b → b < w.heap.size ∧ ∀ i, i < ext.length → γ i ≠ b)
    (hinj : ∀ i j, i < ext.length → j < ext.length → γ i = γ j → i = j) (hbox : ∀ i xs, ext[i]? = some xs → BoxIs w ok (γ i) xs) (hl : args.length = vs.length)
    (hargs : ∀ (j : Nat) (x : SV) (v : Value), args[j]? = some x → vs[j]? = some v → SLies w ok (argβ γ) (argLk ext) x v) (hnt : args.length ≤ nt) :
    RR ⟨w, ext.length, γ, nt, ok⟩ (argβ γ) (enter args ext) { tmps := vs.toArray ++ Array.replicate (nt - vs.toArray.size) undef, defers := [] } w := by
  have hlook : (enter args ext).look = argLk ext := rfl
  have hback : ∀ k o, (enter args ext).look k = some o → ∃ i xs, k = .ext i ∧ i < ext.length ∧ ext[i]? = some xs ∧ o = .box (xs.map .pv) := fun k o h => by
    obtain ⟨i, xs, h1, h2, h3⟩ := extsOf_back ext 0 k o h
    exact ⟨i, xs, by simpa using h1, (List.getElem?_eq_some_iff.1 h2).1, h2, h3⟩
  have hok' : ∀ b, ok b → okB ⟨w, ext.length, γ, nt, ok⟩ (argβ γ) (enter args ext).look w b := fun b hb => by
    refine ⟨(hok b hb).1, fun k o h => ?_, fun _ => hb⟩
    obtain ⟨i, xs, rfl, hi, _⟩ := hback k o h
    exact (hok b hb).2 i hi
  refine ⟨?_, rfl, ?_, ?_, ?_, ?_, ?_, ?_, Nat.le_refl _, fun b _ _ => rfl, Quiet.refl _⟩
  · simp; omega
  · intro k k' o o' h1 h2 e
    obtain ⟨i, _, rfl, hi, _⟩ := hback k o h1
    obtain ⟨j, _, rfl, hj, _⟩ := hback k' o' h2
    rw [hinj i j hi hj e]
  · intro k o h
    obtain ⟨i, xs, rfl, hi, hx, rfl⟩ := hback k o h
    obtain ⟨arr, T, g1, g2, g3, g4⟩ := hbox i xs hx
    refine ⟨arr, T, g1, by simpa using g2, g3, fun j x u hj hu => ?_⟩
    simp only [List.getElem?_map, Option.map_eq_some_iff] at hj
    obtain ⟨y, hy, rfl⟩ := hj
    exact .pv _ _ ((g4 j y u hy hu).mono (fun b _ off u hu => hu) hok')
  · intro k o h hx
    obtain ⟨i, _, rfl, _⟩ := hback k o h
    exact absurd rfl (hx i)
  · intro i hi
    exact ⟨_, argLk_get (List.getElem?_eq_getElem hi)⟩
  · intro i o h
    obtain ⟨j, _, e, hj, _⟩ := hback _ o h
    injection e with e
    subst e
    exact ⟨hj, rfl⟩
  · intro t
    have hg : (enter args ext).get t = args.getD t .dead := by
      have := slotsOf_get args 0 t
      simpa [enter, St.get] using this
    rw [hg]
    by_cases ht : t < args.length
    · have h1 : args[t]? = some args[t] := List.getElem?_eq_getElem ht
      have h2 : vs[t]? = some (vs[t]'(by omega)) := List.getElem?_eq_getElem (by omega)
      have hs := hargs t _ _ h1 h2
      have e1 : args.getD t .dead = args[t] := by simp [List.getD, ht]
      have e2 : (vs.toArray ++ Array.replicate (nt - vs.toArray.size) undef).getD t undef = vs[t]'(by omega) := by
        have : t < vs.length := by omega
        simp [Array.getD_eq_getD_getElem?, Array.getElem?_append, this]
      rw [e1, e2]
      exact hs.mono (fun b _ off u hu => hu) hok' (fun k o h => ⟨o, h, o.sim_refl, rfl⟩)
    · have e1 : args.getD t .dead = .dead := by simp [List.getD, List.getElem?_eq_none_iff.2 (by omega : args.length ≤ t)]
      rw [e1]; exact .dead _

theorem fd_sound (hm : P.follows .mixedOrders = true) (hS : Sound P cl) {f : FuncId} {fn : Func} {fd : Fd} (hf : P.funcs[f]? = some fn) (hag : agreeF P fn fd = true) {args : List SV} {ext : List (List PV)} {r : Res} (hnp : args.length = fd.np) {n : Nat} {ex : Ex} {σ : St}
    (he : exec cl n fd.body (enter args ext) = some (ex, σ)) (hex : ex = .norm ∨ ex = .ret) (hl : leave cl fd ext.length σ = some r) : Contract P f args ext r := by
  simp only [agreeF, Bool.and_eq_true, decide_eq_true_eq, Bool.not_eq_true'] at hag
  obtain ⟨⟨⟨h1, h2⟩, h3⟩, h4⟩ := hag
  split at h4
  · rename_i c hc
    refine ⟨⟨fn, hf, h2, by rw [hc]; rfl⟩, fun w vs γ ok hok hinj hbox hlen hargs => ?_⟩
    refine calls_of_wp hf hc ?_
    have h0 := enter_rr (nt := fn.ntmps) hok hinj hbox hlen hargs (by omega)
    refine (exec_sound (C := ⟨w, ext.length, γ, fn.ntmps, ok⟩) hm hS n c fd.body _ _ σ ex _ w _ h4 h0 he (fun β' a' w' h' => ?_)).1
    obtain ⟨v, δ, hr, haft⟩ := leave_sound h' h3 hl
    rcases hex with rfl | rfl
    · exact ⟨h'.dfs, v, hr, v, δ, rfl, haft⟩
    · exact ⟨h'.dfs, v, hr, v, δ, rfl, haft⟩
  · cases h4

/-- All calls. -/
theorem call_sound (hm : P.follows .mixedOrders = true) {pr : FuncId → Option Fd} {ov : FuncId → Option (List SV → List (List PV) → Option Res)} (hpr : ∀ f fd, pr f = some fd → ∃ fn, P.funcs[f]? = some fn ∧ agreeF P fn fd = true)
    (hov : ∀ f m, ov f = some m → ∀ args ext r, m args ext = some r → Contract P f args ext r) : ∀ n, Sound P (call pr ov n) := by
  intro n
  induction n with
  | zero => intro g args ext r h; cases h
  | succ n ih =>
    intro g args ext r h
    simp only [call] at h
    split at h
    · rename_i m hmv
      exact hov g m hmv args ext r h
    · split at h
      · cases h
      · rename_i fd hfd
        obtain ⟨fn, hf, hag⟩ := hpr g fd hfd
        split at h
        · rename_i hnp
          split at h
          · rename_i σ he
            exact fd_sound hm ih hf hag hnp he (.inl rfl) h
          · rename_i σ he
            exact fd_sound hm ih hf hag hnp he (.inr rfl) h
          · cases h
        · cases h

end
end Go.Av
