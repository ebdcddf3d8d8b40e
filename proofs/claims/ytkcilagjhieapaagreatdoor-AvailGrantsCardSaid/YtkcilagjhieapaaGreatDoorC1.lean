import Derived.Orders
import Derived.RangeFuncRecord
import Derived.Test.YtkcilagjhieapaaGreatDoorC0
section
set_option linter.unusedVariables false
namespace Go.Av
def GOK(w:World)(ok:Nat→Prop):Prop:=ok 0∧w.cell? ⟨0,0,none⟩=some (.iface 200 (.agg #[.pointer (some ⟨1,72,none⟩)]))
theorem Axl{w:World}{ok:Nat→Prop}(h:GOK w ok):0<w.heap.size:=by
 rcases Nat.eq_zero_or_pos w.heap.size with h0|h0
 ·have:=h.2
  simp[World.cell?,h0] at this
 ·exact h0
theorem Nv{w0 w:World}{ok ok':Nat→Prop}(h:GOK w0 ok)(hk: ∀b,ok b→b<w0.heap.size→w.heap[b]? =w0.heap[b]? ∧ok' b):GOK w ok':=by
 obtain⟨h1,h2⟩:=hk 0 h.1 (Axl h)
 refine⟨h2,?_⟩
 have:=h.2
 simp only[World.cell?,h1] at this⊢
 exact this
theorem Alg{w:World}{ok:Nat→Prop}{l:Nat}{o o':Obj}(hl:w.heap[l]? =some o)(hc: ∀arr T g,o≠ .cells arr T g)(h:GOK w ok):GOK (w.putObj l o') ok:=by
 refine⟨h.1,?_⟩
 have hne:(0:Nat)≠l:=by
  rintro rfl
  have:=h.2
  simp only[World.cell?,hl] at this
  cases o<;>simp at this
  exact hc _ _ _ rfl
 have:=h.2
 simp only[World.cell?,World.putObj_heap_other hne] at this⊢
 exact this
end Go.Av
end
