/- Code. -/
import Derived.Test.YtkcilagjhieapaaBvTidy
set_option linter.unusedVariables false
set_option linter.unusedSimpArgs false
namespace Go.Av

def Key.noExt : Key → Bool
  | .ext _ => false
  | _ => true

def agreeCode (P : Program) (nt : Nat) : Code → AC → Bool
  | _, .stuck => true
  | c, .keep _ _ _ _ up x => up.all (fun u => u.key.noExt) && agreeCode P nt c x
  | .block id c, .pass id' x => id == id' && !x.exits id && agreeCode P nt c x
  | .skip, .skip => true
  | .region _ ops false, .ops l => all2 (agreeG P nt ops) ops.toList l
  | .region _ ops true, .draw ks l => all2 (agreeG P nt ops) ops.toList l && (drawOK ops.toList l ks || drawOK2 ops.toList l ks)
  | .region _ ops true, .drawZ ks l l2 => all2 (agreeG P nt ops) ops.toList (l.map GOp.plain ++ l2) && drawOK (ops.toList.take l.length) l ks && zStat l && tailOK ops.toList l.length
  | .seq x y, .seq x' y' => agreeCode P nt x x' && agreeCode P nt y y'
  | .cond c x y, .cond c' x' y' => agreeO c c' && agreeCode P nt x x' && agreeCode P nt y y'
  | .block id x, .block id' x' => id == id' && agreeCode P nt x x'
  | .loop x, .loop _ _ x' => agreeCode P nt x x'
  | .exit id, .exit id' => id == id'
  | .ret, .ret => true
  | _, _ => false

def Ex.to : Ex → Exit
  | .norm => .normal
  | .exit id => .exit id
  | .ret => .ret

/-- Within a loop. -/
def Lp (P : Program) (c : Code) (Q : Exit → Act → World → Prop) (a : Act) (w : World) : Prop :=
  ∀ (b : Frame) (k : List Item) (cs : List Frame), ∃ e a' w', Q e a' w' ∧ Arrives P (lone (b.at a (.code c :: .inLoop c :: k)) cs w) b k cs e a' w'

theorem lp_round {P : Program} {c : Code} {Q : Exit → Act → World → Prop} {a : Act} {w : World} (h : c.wp P (Exit.then (Lp P c Q) Q) a w) : Lp P c Q a w := by
  intro b k cs
  obtain ⟨e, a₁, w₁, hq, harr⟩ := h b (.inLoop c :: k) cs
  cases e with
  | normal =>
    obtain ⟨e₂, a₂, w₂, hq₂, harr₂⟩ := hq b k cs
    exact ⟨e₂, a₂, w₂, hq₂, .of_steps (Steps.trans harr (.one step_inLoop)) harr₂⟩
  | exit id => exact ⟨_, a₁, w₁, hq, .pass (x := .inLoop c) rfl (fun _ _ => .inl (by simp)) harr⟩
  | goto l => exact ⟨_, a₁, w₁, hq, .pass (x := .inLoop c) rfl (fun _ _ => .inl (by simp)) harr⟩
  | ret => exact ⟨_, a₁, w₁, hq, .pass (x := .inLoop c) rfl (fun _ _ => .inl (by simp)) harr⟩
  | panic ch => exact ⟨_, a₁, w₁, hq, .pass (x := .inLoop c) rfl (fun _ _ => .inl (by simp)) harr⟩
  | outgrown => exact ⟨_, a₁, w₁, hq, .pass (x := .inLoop c) rfl (fun _ _ => .inl (by simp)) harr⟩

theorem wp_lp {P : Program} {c : Code} {Q : Exit → Act → World → Prop} {a : Act} {w : World} (h : Lp P c Q a w) : (Code.loop c).wp P Q a w := by
  intro b k cs
  obtain ⟨e, a', w', hq, harr⟩ := h b k cs
  exact ⟨e, a', w', hq, .of_steps (.one step_loop) harr⟩

end Go.Av
