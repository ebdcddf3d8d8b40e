/- From the walk in a plain frame to the walk in any frame: also within a round of a range over a function. -/
import Derived.Test.YtkcilagjhieapaaBvY
import Derived.OrdersIn
import Derived.TacticsIn
set_option linter.unusedVariables false
set_option linter.unusedSimpArgs false
namespace Go.Av

/-- No fence but the kind of frame. -/
def fr (ro : Option Nat) : Fence := { Fence.wide with round := ro }

theorem fr_none : fr none = Fence.wide := rfl
theorem fr_some (l : Nat) : fr (some l) = Fence.wide.inRound l := rfl

section
variable {P : Program} {ro : Option Nat} {n : Nat} {ops : Array Oper} {o : Oper} {a : Act} {w : World} {K : Act → World → Prop} {Q : Exit → Act → World → Prop}

theorem callsIn_fr {f : FuncId} {args : Array Value} {R : Ending → World → Prop} : CallsIn (fr ro) n P f args w R ↔ Calls P f args w R := callsIn_wide (n := n)

theorem wpIn_of_wp (hnd : ∀ c, o.op ≠ .defer c) (h : o.wp P a w K Q) : o.wpIn (fr ro) n P a w K Q := by
  refine ⟨fun _ _ => trivial, ?_⟩
  rw [Oper.semAt_eq _ _ _ hnd]
  unfold Oper.wp at h
  generalize (execOp a.eval o).run P w = r at h
  cases r with
  | halt x w' => cases x <;> simp only [Oper.upon, Oper.uponIn] at h ⊢ <;> exact h
  | ok x w' =>
    cases x <;> simp only [Oper.upon, Oper.uponIn] at h ⊢
    case value => exact h
    case skip => exact h
    case defer => exact h
    case enter f args => exact ⟨(fun hh => by cases hh), callsIn_fr.2 h⟩
    case row r args =>
      refine ⟨(fun hh => by cases hh), fun c cs _ => ?_⟩
      obtain ⟨v, w2, r2, s⟩ := h c cs
      exact ⟨v, w2, r2, stepsIn_wide.2 s⟩

theorem agree_defer {op : AOp} {c : Call} (h : agree P op (.defer c) = true) : op = .stuck := by
  cases op <;> first | rfl | (exfalso; simp [agree, agMov, agPick, agAlloc, agBox, agLoad, agStore, agBin, agEqs, agUn, agConv, agFld, agPart, agIdx, agSidx, agExt, agBuild, agLit, agMk, agSlc, agLen, agMm, agFn, agCall, agApp, agMkmap, agMlook, agMset, agMlen] at h)

def GuardedIn (ro : Option Nat) (n : Nat) (P : Program) (ops : Array Oper) (o : Oper) (a : Act) (w : World) (K : Act → World → Prop) (Q : Exit → Act → World → Prop) : Prop :=
  if Region.wanted o (yielded ops a.tmps) then o.wpIn (fr ro) n P a w K Q else (∀ f, o.about P w a.eval = some f → (fr ro).fn f) ∧ K (a.put o.dst undef) w

theorem guardedIn_of (hnd : Region.wanted o (yielded ops a.tmps) = true → ∀ c, o.op ≠ .defer c) (h : Guarded P ops o a w K Q) : GuardedIn ro n P ops o a w K Q := by
  unfold GuardedIn Guarded at *
  cases hw : Region.wanted o (yielded ops a.tmps) with
  | true =>
    rw [hw] at h
    simp only [if_true] at h ⊢
    exact wpIn_of_wp (hnd hw) h
  | false =>
    rw [hw] at h
    exact ⟨fun _ _ => trivial, h⟩

theorem wpAnyIn_of (hnd : ∀ (i : Nat) (o : Oper), ops[i]? = some o → ∀ c, o.op ≠ .defer c) (hQ : ¬ LetsOut Q) : ∀ (fuel : Nat) (listed : Array Bool) (a : Act) (w : World), wpAny P .any ops Q fuel listed a w → wpAnyIn (fr ro) n P .any ops Q fuel listed a w := by
  intro fuel
  induction fuel with
  | zero => intro listed a w h; exact h
  | succ fuel ih =>
    intro listed a w h
    refine ⟨h.1, fun i hi => ?_⟩
    have h := h.2 i hi
    unfold wpOp at h
    unfold wpOpIn
    cases ho : ops[i]? with
    | none => rw [ho] at h; exact ih _ _ _ h
    | some o =>
      rw [ho] at h
      simp only at h ⊢
      split
      · rename_i hw
        rw [if_pos hw] at h
        rcases h with h | ⟨_, h⟩
        · exact Oper.wpIn_mono (fun a w => ih _ a w) (wpIn_of_wp (hnd i o ho) h)
        · exact absurd h hQ
      · rename_i hw
        rw [if_neg hw] at h
        exact ⟨fun _ _ => trivial, ih _ _ _ h⟩

end
end Go.Av
