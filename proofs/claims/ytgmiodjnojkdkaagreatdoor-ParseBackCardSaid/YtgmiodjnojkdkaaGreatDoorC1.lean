import Derived.Orders
import Derived.RangeFuncRecord
import Derived.Test.YtgmiodjnojkdkaaGreatDoorC0
set_option linter.all false
section
namespace Go.Av
def GOK(w:World)(ok:Nat→Prop):Prop:=ok 0∧ ∃m:Int,w.cell? ⟨0,0,none⟩=some (.int .i64 m)
theorem Brt{w:World}{ok:Nat→Prop}(h:GOK w ok):0<w.heap.size:=by
 rcases Nat.eq_zero_or_pos w.heap.size with h0|h0
 ·obtain⟨m,h⟩:=h.2
  simp[World.cell?,h0] at h
 ·exact h0
theorem Auy{w0 w:World}{ok ok':Nat→Prop}(h:GOK w0 ok)(hk: ∀b,ok b→b<w0.heap.size→w.heap[b]? =w0.heap[b]? ∧ok' b):GOK w ok':=by
 obtain⟨h1,h2⟩:=hk 0 h.1 (Brt h)
 obtain⟨m,h3⟩:=h.2
 refine⟨h2,m,?_⟩
 simp only[World.cell?,h1] at h3⊢
 exact h3
end Go.Av
end
