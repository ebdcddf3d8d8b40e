/- Code. -/
import Derived.Test.YtkcilagjhieapaaBvTidy
import Derived.Test.YtkcilagjhieapaaBvV
set_option linter.unusedVariables false
set_option linter.unusedSimpArgs false
namespace Go.Av

def Key.noExt : Key → Bool
  | .ext _ => false
  | _ => true

def GOp.told (g : GOp) : Bool := match g.op with
  | .stuck => false
  | _ => true

def agreeCode (P : Program) (nt : Nat) : Code → AC → Bool
  | _, .stuck => true
  | c, .keep _ _ _ _ up x => up.all (fun u => u.key.noExt) && agreeCode P nt c x
  | .block id c, .pass id' x => id == id' && !x.exits id && agreeCode P nt c x
  | .skip, .skip => true
  | .region _ ops false, .ops l => all2 (agreeG P nt ops) ops.toList l
  | .region _ ops true, .draw ks l => all2 (agreeG P nt ops) ops.toList l && l.all GOp.told && (drawOK ops.toList l ks || drawOK2 ops.toList l ks)
  | .region _ ops true, .drawZ ks l l2 => all2 (agreeG P nt ops) ops.toList (l.map GOp.plain ++ l2) && (l.map GOp.plain ++ l2).all GOp.told && drawOK (ops.toList.take l.length) l ks && zStat l && tailOK ops.toList l.length
  | .seq x y, .seq x' y' => agreeCode P nt x x' && agreeCode P nt y y'
  | .cond c x y, .cond c' x' y' => agreeO c c' && agreeCode P nt x x' && agreeCode P nt y y'
  | .block id x, .block id' x' => id == id' && agreeCode P nt x x'
  | .loop x, .loop _ _ x' => agreeCode P nt x x'
  | .exit id, .exit id' => id == id'
  | .ret, .ret => true
  | _, _ => false

def Ex.to : Ex → Exit
  | .norm => .normal
  | .exit id => .exit id
  | .ret => .ret

theorem told_defer {P : Program} {nt : Nat} {ops : Array Oper} : ∀ {l : List Oper} {l' : List GOp}, all2 (agreeG P nt ops) l l' = true → l'.all GOp.told = true → ∀ (i : Nat) (o : Oper), l[i]? = some o → ∀ c, o.op ≠ .defer c
  | [], _, _, _, i, o, ho, c => by simp at ho
  | _ :: _, [], h, _, _, _, _, _ => by simp [all2] at h
  | x :: l, g :: l', h, ht, i, o, ho, c => by
    simp only [all2, Bool.and_eq_true, List.all_cons] at h ht
    cases i with
    | zero =>
      simp at ho; subst ho
      intro hc
      have h1 := (agreeG_spec h.1).1
      rw [hc] at h1
      have := agree_defer h1
      have h2 := ht.1
      unfold GOp.told at h2
      rw [this] at h2; cases h2
    | succ i => exact told_defer h.2 ht.2 i o (by simpa using ho) c

/-- Within a loop. -/
def Lp (ro : Option Nat) (n : Nat) (P : Program) (c : Code) (Q : Exit → Act → World → Prop) (a : Act) (w : World) : Prop :=
  ∀ (b : Frame) (k : List Item) (cs : List Frame), b.roundOf = (fr ro).round → (fr ro).fn b.fn → (fr ro).room (cs.length + 1 + n) →
    ∃ e a' w', Q e a' w' ∧ ArrivesIn (Machine.fenced P (fr ro)) P (lone (b.atR a (.code c :: .inLoop c :: k)) cs w) b k cs e a' w'

theorem lp_round {ro : Option Nat} {n : Nat} {P : Program} {c : Code} {Q : Exit → Act → World → Prop} {a : Act} {w : World} (h : c.wpIn (fr ro) n P (Exit.then (Lp ro n P c Q) Q) a w) : Lp ro n P c Q a w := by
  intro b k cs hro hb hr
  obtain ⟨e, a₁, w₁, hq, harr⟩ := h b (.inLoop c :: k) cs hro hb hr
  cases e with
  | normal =>
    obtain ⟨e₂, a₂, w₂, hq₂, harr₂⟩ := hq b k cs hro hb hr
    exact ⟨e₂, a₂, w₂, hq₂, .of_steps (StepsIn.trans harr (.one (fenced_calm hb hr rfl) stepR_inLoop)) harr₂⟩
  | exit id => exact ⟨_, a₁, w₁, hq, .pass (x := .inLoop c) rfl (fun _ _ => .inl (by simp)) harr⟩
  | goto l => exact ⟨_, a₁, w₁, hq, .pass (x := .inLoop c) rfl (fun _ _ => .inl (by simp)) harr⟩
  | ret => exact ⟨_, a₁, w₁, hq, .pass (x := .inLoop c) rfl (fun _ _ => .inl (by simp)) harr⟩
  | panic ch => exact ⟨_, a₁, w₁, hq, .pass (x := .inLoop c) rfl (fun _ _ => .inl (by simp)) harr⟩
  | outgrown => exact ⟨_, a₁, w₁, hq, .pass (x := .inLoop c) rfl (fun _ _ => .inl (by simp)) harr⟩

theorem wp_lp {ro : Option Nat} {n : Nat} {P : Program} {c : Code} {Q : Exit → Act → World → Prop} {a : Act} {w : World} (h : Lp ro n P c Q a w) : (Code.loop c).wpIn (fr ro) n P Q a w := by
  intro b k cs hro hb hr
  obtain ⟨e, a', w', hq, harr⟩ := h b k cs hro hb hr
  exact ⟨e, a', w', hq, .of_steps (.one (fenced_calm hb hr rfl) stepR_loop) harr⟩

end Go.Av
