/- slices.Insert of one element into a row of its own: the machine's. -/
import Derived.Test.YtkcilagjhieapaaBman
import Derived.Test.YtkcilagjhieapaaBvY
import Derived.Shelf.Spec.SlicesInsertGrow
import Derived.Laws.CopyRow
import Derived.Deep.WholeRow
set_option linter.unusedVariables false
set_option linter.unusedSimpArgs false
namespace Go.Av
open Go Go.Proofs Go.Shelf Go.RowKit Go.Lib

section
variable {P : Program}

theorem run_copy_rowN (w : World) (dT sT ty elem : TypeId) (i : TypeInfo) (g o dLen dCap : Nat) (a : Addr) (sLen sCap k : Nat) (cur : Array Value) (t : TypeId) (cs : List Value)
    (hu : P.underlying dT = some (.slice elem)) (hs : P.info? elem = some i)
    (hg : w.heap[g]? = some (.cells cur t (0, 0))) (hk : k = Nat.min sLen dLen) (hn : cs.length = k * i.size)
    (hsrc : ∀ j v, cs[j]? = some v → w.cell? (a.add j) = some v) (hfit : o + cs.length ≤ cur.size) (h1 : ∀ v ∈ cs, v.oneCell' = true) :
    (Builtin.copy_ #[dT, sT] ty #[.slice (some ⟨g, o, none⟩) dLen dCap, .slice (some a) sLen sCap]).run P w =
      .ok (goInt k) (w.setRow g (cur.toList.take o ++ cs ++ cur.toList.drop (o + cs.length)).toArray) := by
  have hl := run_loadCells_list (P := P) w a cs hsrc
  have hst := run_storeCells_at P g o t cs 0 cur w hg (by simpa using hfit) h1
  rw [hn] at hl
  simp [Builtin.copy_, run_underlying hu, Builtin.lenOf, Builtin.firstCells, sizeOf, typeInfo, hs, ← hk, hl, hst]
end


theorem drop_take_mem {α : Type} {L : List α} {i n z : Nat} {v : α} (h : i ≤ n) (hv : v ∈ (L.drop (i * z)).take ((n - i) * z)) : v ∈ L.take (n * z) := by
  have e : (L.drop (i * z)).take ((n - i) * z) = (L.take (n * z)).drop (i * z) := by
    rw [List.drop_take, Nat.sub_mul]
  rw [e] at hv
  exact List.mem_of_mem_drop hv

theorem ins_list {α : Type} (L V S : List α) (p z e : Nat) (hz : p + z ≤ L.length) (hv : V.length = z) (he : e = p + z + S.length) :
    (L.take (p + z) ++ S ++ L.drop (p + z + S.length)).take p ++ V ++ (L.take (p + z) ++ S ++ L.drop (p + z + S.length)).drop (p + V.length) = L.take p ++ V ++ S ++ L.drop e := by
  have h1 : (L.take (p + z)).length = p + z := by simp; omega
  rw [List.append_assoc (L.take (p + z)), List.take_append_of_le_length (by omega), List.take_take, Nat.min_eq_left (by omega), hv, List.drop_left' h1, he]
  simp

theorem grow_list {α : Type} (T M Z V S : List α) (p z : Nat) (hT : T.length = p) (hV : V.length = z) (hM : M.length = z + S.length) :
    (((T ++ M ++ Z).take p ++ V ++ (T ++ M ++ Z).drop (p + z)).take (p + z) ++ S ++ ((T ++ M ++ Z).take p ++ V ++ (T ++ M ++ Z).drop (p + z)).drop (p + z + S.length)) = T ++ V ++ S ++ Z := by
  have e1 : (T ++ M ++ Z).take p = T := by rw [List.append_assoc, List.take_left' hT]
  have e2 : (T ++ M ++ Z).drop (p + z) = M.drop z ++ Z := by
    rw [List.append_assoc, ← List.drop_drop, List.drop_left' hT, List.drop_append_of_le_length (by omega)]
  have e3 : (T ++ V).length = p + z := by simp [hT, hV]
  rw [e1, e2, List.take_left' e3, ← List.drop_drop (i := S.length), List.drop_left' e3]
  have e4 : (M.drop z).length = S.length := by simp [hM]
  rw [List.drop_left' e4]

end Go.Av
