import Derived.Shelf.Spec.SlicesInsertGrow
import Derived.Laws.CopyRow
import Derived.Deep.WholeRow
import Derived.Test.YtkcilagjhieapaaGreatDoorC15
section
set_option linter.unusedVariables false
set_option linter.unusedSimpArgs false
namespace Go.Av
open Go Go.Proofs Go.Shelf Go.RowKit Go.Lib
section
variable {P : Program}
theorem run_copy_rowN (w : World) (dT sT ty elem : TypeId) (i : TypeInfo) (g o dLen dCap : Nat) (a : Addr) (sLen sCap k : Nat) (cur : Array Value) (t : TypeId) (cs : List Value)
  (hu : P.underlying dT = some (.slice elem)) (hs : P.info? elem = some i)
  (hg : w.heap[g]? = some (.cells cur t (0, 0))) (hk : k = Nat.min sLen dLen) (hn : cs.length = k * i.size)
  (hsrc : ∀ j v, cs[j]? = some v → w.cell? (a.add j) = some v) (hfit : o + cs.length ≤ cur.size) (h1 : ∀ v ∈ cs, v.oneCell' = true) :
  (Builtin.copy_ #[dT, sT] ty #[.slice (some ⟨g, o, none⟩) dLen dCap, .slice (some a) sLen sCap]).run P w =
   .ok (goInt k) (w.setRow g (cur.toList.take o ++ cs ++ cur.toList.drop (o + cs.length)).toArray) := by
 have hl := run_loadCells_list (P := P) w a cs hsrc
 have hst := run_storeCells_at P g o t cs 0 cur w hg (by simpa using hfit) h1
 rw [hn] at hl
 simp [Builtin.copy_, run_underlying hu, Builtin.lenOf, Builtin.firstCells, sizeOf, typeInfo, hs, ← hk, hl, hst]
end
theorem drop_take_mem {α : Type} {L : List α} {i n z : Nat} {v : α} (h : i ≤ n) (hv : v ∈ (L.drop (i * z)).take ((n - i) * z)) : v ∈ L.take (n * z) := by
 have e : (L.drop (i * z)).take ((n - i) * z) = (L.take (n * z)).drop (i * z) := by
  rw [List.drop_take, Nat.sub_mul]
 rw [e] at hv
 exact List.mem_of_mem_drop hv
theorem ins_list {α : Type} (L V S : List α) (p z e : Nat) (hz : p + z ≤ L.length) (hv : V.length = z) (he : e = p + z + S.length) :
  (L.take (p + z) ++ S ++ L.drop (p + z + S.length)).take p ++ V ++ (L.take (p + z) ++ S ++ L.drop (p + z + S.length)).drop (p + V.length) = L.take p ++ V ++ S ++ L.drop e := by
 have h1 : (L.take (p + z)).length = p + z := by simp; omega
 rw [List.append_assoc (L.take (p + z)), List.take_append_of_le_length (by omega), List.take_take, Nat.min_eq_left (by omega), hv, List.drop_left' h1, he]
 simp
theorem grow_list {α : Type} (T M Z V S : List α) (p z : Nat) (hT : T.length = p) (hV : V.length = z) (hM : M.length = z + S.length) :
  (((T ++ M ++ Z).take p ++ V ++ (T ++ M ++ Z).drop (p + z)).take (p + z) ++ S ++ ((T ++ M ++ Z).take p ++ V ++ (T ++ M ++ Z).drop (p + z)).drop (p + z + S.length)) = T ++ V ++ S ++ Z := by
 have e1 : (T ++ M ++ Z).take p = T := by rw [List.append_assoc, List.take_left' hT]
 have e2 : (T ++ M ++ Z).drop (p + z) = M.drop z ++ Z := by
  rw [List.append_assoc, ← List.drop_drop, List.drop_left' hT, List.drop_append_of_le_length (by omega)]
 have e3 : (T ++ V).length = p + z := by simp [hT, hV]
 rw [e1, e2, List.take_left' e3, ← List.drop_drop (i := S.length), List.drop_left' e3]
 have e4 : (M.drop z).length = S.length := by simp [hM]
 rw [List.drop_left' e4]
end Go.Av
end
section
set_option linter.unusedVariables false
set_option linter.unusedSimpArgs false
namespace Go.Av
open Go Go.Proofs Go.Shelf Go.RowKit Go.Lib
set_option maxHeartbeats 8000000 in
set_option maxRecDepth 100000 in
theorem ins93_shift (w : World) (b vb n c i vc : Nat) (cur vcur : Array Value) (T T2 : TypeId) (hg : w.heap[b]? = some (.cells cur T (0, 0))) (hv : w.heap[vb]? = some (.cells vcur T2 (0, 0))) (hne : vb ≠ b)
  (hs : cur.size = c * 9) (hvs : 9 ≤ vcur.size) (hi : i < n) (hroom : n + 1 ≤ c) (hc93 : n + 1 ≤ 9223372036854775807) (h1c : ∀ v ∈ cur.toList.take (n * 9), v.oneCell' = true) (h1v : ∀ v ∈ vcur.toList.take 9, v.oneCell' = true) :
  Calls Tryz.prog 93 #[.slice (some ⟨b, 0, none⟩) n c, .int .i64 i, .slice (some ⟨vb, 0, none⟩) 1 vc] w fun e w' =>
   e = .returned (.slice (some ⟨b, 0, none⟩) (n + 1) c) ∧ ∃ W, W.heap = w.heap ∧ Quiet w W ∧ w' = W.setRow b (cur.toList.take (i * 9) ++ vcur.toList.take 9 ++ (cur.toList.drop (i * 9)).take ((n - i) * 9) ++ cur.toList.drop ((n + 1) * 9)).toArray := by
 have hz2 : ¬ ((i : Int) = (n : Int)) := by omega
 have hov : ∀ lb cb, (callFunc 128 #[.slice (some ⟨vb, 0, none⟩) 1 vc, .slice (some ⟨b, (i + 1) * 9, none⟩) lb cb]).run Tryz.prog w = .ok (.value (.bool false)) w := fun lb cb => by
  rw [run_callFunc_extern Tryz.func128 (by kernel_rfl) (by kernel_rfl) (by kernel_rfl) (e := Extern.SlicesOverlaps.overlaps #[27, 27] #[4]) (by kernel_rfl),
   Lib.run_overlaps_apart w 27 4 52 Tryz.underlying27 9 Tryz.sizeOf52 ⟨vb, 0, none⟩ ⟨b, (i + 1) * 9, none⟩ 1 vc lb cb hne T2 T vcur.size cur.size (by simp [World.shape?, hv]) (by simp [World.shape?, hg]) (by omega) (by simp [World.frozen?, hv]) (by simp [World.frozen?, hv])]
  rfl
 have hsz8 : ((Tryz.prog.info? 52).getD default).size = 9 := by kernel_rfl
 obtain ⟨src, hsrc⟩ : ∃ src : List Value, src = (cur.toList.drop (i * 9)).take ((n - i) * 9) := ⟨_, rfl⟩
 obtain ⟨A1, hA1⟩ : ∃ A : Array Value, A = (cur.toList.take ((i + 1) * 9) ++ src ++ cur.toList.drop ((i + 1) * 9 + src.length)).toArray := ⟨_, rfl⟩
 have hsl : src.length = (n - i) * 9 := by rw [hsrc]; simp; omega
 have hcp1 : ∀ ty dc sc, (Builtin.copy_ #[27, 27] ty #[.slice (some ⟨b, (i + 1) * 9, none⟩) (n - i) dc, .slice (some ⟨b, i * 9, none⟩) (n + 1 - i) sc]).run Tryz.prog w.drew = .ok (goInt (n - i : Nat)) (w.drew.setRow b A1) := fun ty dc sc => by
  rw [hA1]
  exact run_copy_rowN w.drew 27 27 ty 52 _ b ((i + 1) * 9) _ _ ⟨b, i * 9, none⟩ _ _ (n - i) cur T src Tryz.underlying27 (show Tryz.prog.info? 52 = some ((Tryz.prog.info? 52).getD default) by kernel_rfl) hg (by simp only [Nat.min_def]; split <;> omega) (by rw [hsl]; congr 1) (fun j v hj => by
   rw [Addr.add_lit]
   rw [hsrc, List.getElem?_take] at hj
   split at hj
   ·rw [List.getElem?_drop] at hj
    show World.cell? w _ = _
    simp only [World.cell?, hg]
    simpa using hj
   ·cases hj) (by rw [hsl]; omega) (fun v hv => by rw [hsrc] at hv; exact h1c v (drop_take_mem (by omega) hv))
 have hw1 : IntKind.i64.wrap ((i : Int) + 1) = (i : Int) + 1 := by rw [IntKind.wrap_i64]; omega
 have hb1 : (0 : Int) ≤ (i : Int) + 1 := by omega
 have hin : i ≤ n := by omega
 have htn : ((i : Int) + 1).toNat = i + 1 := by omega
 have hb2 : ¬ (c = i + 1) := by omega
 have hb3 : (i : Int) ≤ (n : Int) + 1 := by omega
 have hb4 : ¬ (c = i) := by omega
 have hA1s : A1.size = cur.size := by rw [hA1]; simp [hsl]; omega
 obtain ⟨A2, hA2⟩ : ∃ A : Array Value, A = (A1.toList.take (i * 9) ++ vcur.toList.take 9 ++ A1.toList.drop (i * 9 + (vcur.toList.take 9).length)).toArray := ⟨_, rfl⟩
 have hcp2 : ∀ W : World, W.heap = (w.setRow b A1).heap → ∀ ty dc sc, (Builtin.copy_ #[27, 27] ty #[.slice (some ⟨b, i * 9, none⟩) (n + 1 - i) dc, .slice (some ⟨vb, 0, none⟩) 1 sc]).run Tryz.prog W = .ok (goInt (1 : Nat)) (W.setRow b A2) := fun W hW ty dc sc => by
  rw [hA2]
  exact run_copy_rowN W 27 27 ty 52 _ b (i * 9) _ _ ⟨vb, 0, none⟩ _ _ 1 A1 T (vcur.toList.take 9) Tryz.underlying27 (show Tryz.prog.info? 52 = some ((Tryz.prog.info? 52).getD default) by kernel_rfl) (by rw [hW]; exact setRow_heap w b cur A1 T _ hg) (by simp only [Nat.min_def]; split <;> omega) (by rw [hsz8]; simp; omega) (fun j v hj => by
   rw [Addr.add_lit]
   rw [List.getElem?_take] at hj
   split at hj
   ·simp only [World.cell?, hW, World.setRow, Array.getElem?_modify, if_neg (Ne.symm hne), hv]
    simpa using hj
   ·cases hj) (by simp; omega) h1v
 have hfin : Hid (A2 = (cur.toList.take (i * 9) ++ vcur.toList.take 9 ++ (cur.toList.drop (i * 9)).take ((n - i) * 9) ++ cur.toList.drop ((n + 1) * 9)).toArray) := by
  show A2 = _
  rw [hA2, hA1]
  have e1 : (i + 1) * 9 = i * 9 + 9 := by omega
  rw [e1]
  have := ins_list cur.toList (vcur.toList.take 9) src (i * 9) 9 ((n + 1) * 9) (by simp; omega) (by simp; omega) (by rw [hsl]; omega)
  simp only [List.append_assoc] at this ⊢
  rw [this, hsrc]
 clear hA1 hsrc hsl hA2
 have mixed : Tryz.prog.follows .mixedOrders = true := by kernel_rfl
 go_enter Tryz.func93, Tryz.ntmps93
 go_wp2_with (simp only [hov])
 go_region_law_o (refine step_copy_runI rfl _ _ 27 27 rfl _ _ (by simp [Act.eval, Act.put]) (by simp [Act.eval, Act.put]) (hcp1 _ _ _) ?_)
 go_wp2_with (at_builtin; refine wpList_copy_runI _ rfl _ _ 27 27 rfl _ _ rfl rfl (hcp2 (w.drew.setRow b A1) rfl _ _ _) ?_)
 rw [hcp2 (w.drew.setRow b A1) rfl]
 go_wp2
 go_ret
 refine ⟨rfl, w.drew, rfl, ⟨rfl, rfl, rfl⟩, ?_⟩
 rw [← hfin.out]
 exact setRow_setRow _ _ _ _
set_option maxHeartbeats 8000000 in
set_option maxRecDepth 100000 in
theorem ins93_room (w : World) (b vb n c vc : Nat) (cur vcur : Array Value) (T T2 : TypeId) (hg : w.heap[b]? = some (.cells cur T (0, 0))) (hv : w.heap[vb]? = some (.cells vcur T2 (0, 0)))
  (hs : cur.size = c * 9) (hvs : 9 ≤ vcur.size) (hroom : n + 1 ≤ c) (hc93 : n + 1 ≤ 9223372036854775807) (h1v : ∀ v ∈ vcur.toList.take 9, v.oneCell' = true) :
  Calls Tryz.prog 93 #[.slice (some ⟨b, 0, none⟩) n c, .int .i64 n, .slice (some ⟨vb, 0, none⟩) 1 vc] w fun e w' =>
   e = .returned (.slice (some ⟨b, 0, none⟩) (n + 1) c) ∧ w' = w.setRow b (cur.toList.take (n * 9) ++ vcur.toList.take 9 ++ cur.toList.drop ((n + 1) * 9)).toArray := by
 have hsz8 : ((Tryz.prog.info? 52).getD default).size = 9 := by kernel_rfl
 have hl8 : (vcur.toList.take 9).length = 9 := by simp; omega
 obtain ⟨A, hA⟩ : ∃ A : Array Value, Hid (A = (cur.toList.take (n * 9) ++ vcur.toList.take 9 ++ cur.toList.drop ((n + 1) * 9)).toArray) := ⟨_, show _ = _ from rfl⟩
 have hap : ∀ ty, (Builtin.append_ #[27, 27] ty #[.slice (some ⟨b, 0, none⟩) n c, .slice (some ⟨vb, 0, none⟩) 1 vc]).run Tryz.prog w = .ok (.slice (some ⟨b, 0, none⟩) (n + 1) c) (w.setRow b A) := fun ty => by
  rw [hA.out]
  have h := run_append_room' (P := Tryz.prog) (w := w) 27 ty 52 T ((Tryz.prog.info? 52).getD default) Tryz.underlying27 (by kernel_rfl) b n c cur hg (some ⟨vb, 0, none⟩) 1 vc (vcur.toList.take 9) (by rw [hsz8, hl8]) (fun _ => ⟨_, rfl, fun j v hj => by
   rw [Addr.add_lit]
   rw [List.getElem?_take] at hj
   split at hj
   ·simp only [World.cell?, hv]
    simpa using hj
   ·cases hj⟩) h1v hroom (by rw [hsz8, hl8, hs]; omega)
  rw [hsz8, hl8] at h
  rw [h, show n * 9 + 9 = (n + 1) * 9 by omega]
 go_enter Tryz.func93, Tryz.ntmps93
 go_wp2_with (at_builtin; refine Lib.wpList_append_run _ rfl _ _ _ _ rfl _ _ rfl rfl _ _ (hap _) ?_)
 go_ret
 exact ⟨rfl, by rw [hA.out]⟩
set_option maxHeartbeats 8000000 in
set_option maxRecDepth 100000 in
theorem ins93_end (w : World) (b vb n c vc : Nat) (cur vcur : Array Value) (T T2 : TypeId) (hg : w.heap[b]? = some (.cells cur T (0, 0))) (hv : w.heap[vb]? = some (.cells vcur T2 (0, 0)))
  (hs : cur.size = c * 9) (hvs : 9 ≤ vcur.size) (hnc : n ≤ c) (hroom : c < n + 1) (hbig : (n + 1) * 64 ≤ 140737488355328) (h1v : ∀ v ∈ vcur.toList.take 9, v.oneCell' = true) :
  Calls Tryz.prog 93 #[.slice (some ⟨b, 0, none⟩) n c, .int .i64 n, .slice (some ⟨vb, 0, none⟩) 1 vc] w fun e w' =>
   ∃ G zs, n + 1 ≤ G ∧ zs.length = (G - (n + 1)) * 9 ∧ e = .returned (.slice (some ⟨w.heap.size, 0, none⟩) (n + 1) G) ∧ w' = w.drew.alloc (.cells (cur.toList.take (n * 9) ++ vcur.toList.take 9 ++ zs).toArray 52) := by
 have hsz8 : ((Tryz.prog.info? 52).getD default).size = 9 := by kernel_rfl
 have hby : ((Tryz.prog.info? 52).getD default).bytes = 64 := by kernel_rfl
 have hl8 : (vcur.toList.take 9).length = 9 := by simp; omega
 have hsrc : Src Tryz.prog ((Tryz.prog.info? 52).getD default).size 27 (.slice (some ⟨vb, 0, none⟩) 1 vc) 1 (vcur.toList.take 9) w := Src.ofSlice w Tryz.underlying27 ⟨vb, 0, none⟩ 1 vc (vcur.toList.take 9) (by rw [hsz8, hl8]) (fun j u hj => by
   rw [Addr.add_lit]
   rw [List.getElem?_take] at hj
   split at hj
   ·simp only [World.cell?, hv]
    simpa using hj
   ·cases hj) h1v
 have hold : (Builtin.firstCells ((Tryz.prog.info? 52).getD default).size n (.slice (some ⟨b, 0, none⟩) n c)).run Tryz.prog w.drew = .ok (cur.toList.take (n * 9)).toArray w.drew := by
  exact run_firstCells_some w.drew _ n ⟨b, 0, none⟩ n c (cur.toList.take (n * 9)) (by rw [hsz8]; simp; omega) (fun j v hj => by
   rw [Addr.add_lit]
   rw [List.getElem?_take] at hj
   split at hj
   ·show World.cell? w _ = _
    simp only [World.cell?, hg]
    simpa using hj
   ·cases hj)
 obtain ⟨z, hz⟩ : ∃ z, ((Tryz.prog.info? 52).getD default).zero = some z := ⟨_, show _ = some ((((Tryz.prog.info? 52).getD default).zero).getD undef) by kernel_rfl⟩
 have hzs : Hid (z.cells.size = 9) := by
  have h : (((Tryz.prog.info? 52).getD default).zero).getD undef = z := by rw [hz]; rfl
  show _ = _
  rw [← h]
  kernel_rfl
 obtain ⟨G, hG⟩ : ∃ G, G = grownCap w (n + 1) c 52 := ⟨_, rfl⟩
 obtain ⟨zs, hzs'⟩ : ∃ zs : List Value, zs = (Builtin.zeroCells z.cells (G - (n + 1))).toList := ⟨_, rfl⟩
 obtain ⟨arr, harr⟩ : ∃ arr : Array Value, Hid (arr = (cur.toList.take (n * 9) ++ vcur.toList.take 9 ++ zs).toArray) := ⟨_, show _ = _ from rfl⟩
 have hGn : n + 1 ≤ G := by rw [hG]; exact grownCap_ge w _ _ _
 have hzl : zs.length = (G - (n + 1)) * 9 := by rw [hzs', Array.length_toList, size_zeroCells, hzs.out]
 have hrun : ∀ ty, (Builtin.append_ #[27, 27] ty #[.slice (some ⟨b, 0, none⟩) n c, .slice (some ⟨vb, 0, none⟩) 1 vc]).run Tryz.prog w = .ok (.slice (some ⟨w.heap.size, 0, none⟩) (n + 1) G) (w.drew.alloc (.cells arr 52)) := fun ty => by
  rw [run_append_grow_src w 27 27 ty 52 ((Tryz.prog.info? 52).getD default) z Tryz.underlying27 (by kernel_rfl) hz (some ⟨b, 0, none⟩) n c _ hold _ 1 _ hsrc hroom (by omega) (by rw [hby]; exact growslice_fits hroom hbig), harr.out, hzs', hG]
  congr 4
  apply Array.toList_inj.1
  simp
 clear hzs' hG hz hold hsrc hzs
 go_enter Tryz.func93, Tryz.ntmps93
 go_wp2_with (at_builtin; refine Lib.wpList_append_run _ rfl _ _ _ _ rfl _ _ rfl rfl _ _ (hrun _) ?_)
 all_goals (go_ret; exact ⟨G, zs, hGn, hzl, rfl, by rw [← harr.out]; rfl⟩)
set_option maxHeartbeats 8000000 in
set_option maxRecDepth 100000 in
theorem ins93_nil (w : World) (ax : Option Addr) (vb vc : Nat) (vcur : Array Value) (T2 : TypeId) (hv : w.heap[vb]? = some (.cells vcur T2 (0, 0)))
  (hvs : 9 ≤ vcur.size) (hbig : 64 ≤ 140737488355328) (h1v : ∀ v ∈ vcur.toList.take 9, v.oneCell' = true) :
  Calls Tryz.prog 93 #[.slice ax 0 0, .int .i64 0, .slice (some ⟨vb, 0, none⟩) 1 vc] w fun e w' =>
   ∃ G zs, 1 ≤ G ∧ zs.length = (G - 1) * 9 ∧ e = .returned (.slice (some ⟨w.heap.size, 0, none⟩) 1 G) ∧ w' = w.drew.alloc (.cells (vcur.toList.take 9 ++ zs).toArray 52) := by
 have hsz8 : ((Tryz.prog.info? 52).getD default).size = 9 := by kernel_rfl
 have hby : ((Tryz.prog.info? 52).getD default).bytes = 64 := by kernel_rfl
 have hl8 : (vcur.toList.take 9).length = 9 := by simp; omega
 have hsrc : Src Tryz.prog ((Tryz.prog.info? 52).getD default).size 27 (.slice (some ⟨vb, 0, none⟩) 1 vc) 1 (vcur.toList.take 9) w := Src.ofSlice w Tryz.underlying27 ⟨vb, 0, none⟩ 1 vc (vcur.toList.take 9) (by rw [hsz8, hl8]) (fun j u hj => by
   rw [Addr.add_lit]
   rw [List.getElem?_take] at hj
   split at hj
   ·simp only [World.cell?, hv]
    simpa using hj
   ·cases hj) h1v
 have hold : (Builtin.firstCells ((Tryz.prog.info? 52).getD default).size 0 (.slice ax 0 0)).run Tryz.prog w.drew = .ok ([] : List Value).toArray w.drew := by
  cases ax with
  | none => rfl
  | some a => exact run_firstCells_some w.drew _ 0 a 0 0 [] (by simp) (fun j v hj => by simp at hj)
 obtain ⟨z, hz⟩ : ∃ z, ((Tryz.prog.info? 52).getD default).zero = some z := ⟨_, show _ = some ((((Tryz.prog.info? 52).getD default).zero).getD undef) by kernel_rfl⟩
 have hzs : Hid (z.cells.size = 9) := by
  have h : (((Tryz.prog.info? 52).getD default).zero).getD undef = z := by rw [hz]; rfl
  show _ = _
  rw [← h]
  kernel_rfl
 obtain ⟨G, hG⟩ : ∃ G, G = grownCap w (0 + 1) 0 52 := ⟨_, rfl⟩
 obtain ⟨zs, hzs'⟩ : ∃ zs : List Value, zs = (Builtin.zeroCells z.cells (G - (0 + 1))).toList := ⟨_, rfl⟩
 obtain ⟨arr, harr⟩ : ∃ arr : Array Value, Hid (arr = (vcur.toList.take 9 ++ zs).toArray) := ⟨_, show _ = _ from rfl⟩
 have hGn : 1 ≤ G := by rw [hG]; exact grownCap_ge w _ _ _
 have hzl : zs.length = (G - 1) * 9 := by rw [hzs', Array.length_toList, size_zeroCells, hzs.out]
 have hrun : ∀ ty, (Builtin.append_ #[27, 27] ty #[.slice ax 0 0, .slice (some ⟨vb, 0, none⟩) 1 vc]).run Tryz.prog w = .ok (.slice (some ⟨w.heap.size, 0, none⟩) 1 G) (w.drew.alloc (.cells arr 52)) := fun ty => by
  have hroom : 0 < 0 + 1 := by omega
  rw [run_append_grow_src w 27 27 ty 52 ((Tryz.prog.info? 52).getD default) z Tryz.underlying27 (by kernel_rfl) hz ax 0 0 _ hold _ 1 _ hsrc hroom (by omega) (by rw [hby]; exact growslice_fits hroom (by omega)), harr.out, hzs', hG]
  congr 4
  apply Array.toList_inj.1
  simp
 clear hzs' hG hz hold hsrc hzs
 cases ax with
 | none =>
  go_enter Tryz.func93, Tryz.ntmps93
  go_wp2_with (at_builtin; refine Lib.wpList_append_run _ rfl _ _ _ _ rfl _ _ rfl rfl _ _ (hrun _) ?_)
  all_goals (go_ret; exact ⟨G, zs, hGn, hzl, rfl, by rw [← harr.out]; rfl⟩)
 | some a =>
  go_enter Tryz.func93, Tryz.ntmps93
  go_wp2_with (at_builtin; refine Lib.wpList_append_run _ rfl _ _ _ _ rfl _ _ rfl rfl _ _ (hrun _) ?_)
  all_goals (go_ret; exact ⟨G, zs, hGn, hzl, rfl, by rw [← harr.out]; rfl⟩)
set_option maxHeartbeats 8000000 in
set_option maxRecDepth 100000 in
theorem ins93_grow (w : World) (b vb n c i vc : Nat) (cur vcur : Array Value) (T T2 : TypeId) (hg : w.heap[b]? = some (.cells cur T (0, 0))) (hv : w.heap[vb]? = some (.cells vcur T2 (0, 0)))
  (hs : cur.size = c * 9) (hvs : 9 ≤ vcur.size) (hi : i < n) (hnc : n ≤ c) (hroom : c < n + 1) (hbig : (n + 1) * 64 ≤ 140737488355328) (h1c : ∀ v ∈ cur.toList.take (n * 9), v.oneCell' = true) (h1v : ∀ v ∈ vcur.toList.take 9, v.oneCell' = true) :
  Calls Tryz.prog 93 #[.slice (some ⟨b, 0, none⟩) n c, .int .i64 i, .slice (some ⟨vb, 0, none⟩) 1 vc] w fun e w' =>
   ∃ G zs W, n + 1 ≤ G ∧ zs.length = (G - (n + 1)) * 9 ∧ e = .returned (.slice (some ⟨w.heap.size, 0, none⟩) (n + 1) G) ∧ W.heap = w.heap ∧ Quiet w W ∧ w' = W.alloc (.cells (cur.toList.take (i * 9) ++ vcur.toList.take 9 ++ (cur.toList.drop (i * 9)).take ((n - i) * 9) ++ zs).toArray 52) := by
 have hsz8 : ((Tryz.prog.info? 52).getD default).size = 9 := by kernel_rfl
 have hby : ((Tryz.prog.info? 52).getD default).bytes = 64 := by kernel_rfl
 have hi32 : Tryz.prog.info? 52 = some ((Tryz.prog.info? 52).getD default) := by kernel_rfl
 have hl8 : (vcur.toList.take 9).length = 9 := by simp; omega
 have hbw : b < w.heap.size := (Array.getElem?_eq_some_iff.1 hg).1
 have hvw : vb < w.heap.size := (Array.getElem?_eq_some_iff.1 hv).1
 have hz2 : ¬ ((i : Int) = (n : Int)) := by omega
 have hz3 : (c : Int) < (n : Int) + 1 := by omega
 have hold : (Builtin.firstCells ((Tryz.prog.info? 52).getD default).size i (.slice (some ⟨b, 0, none⟩) i c)).run Tryz.prog w.drew = .ok (cur.toList.take (i * 9)).toArray w.drew := by
  exact run_firstCells_some w.drew _ i ⟨b, 0, none⟩ i c (cur.toList.take (i * 9)) (by rw [hsz8]; simp; omega) (fun j v hj => by
   rw [Addr.add_lit]
   rw [List.getElem?_take] at hj
   split at hj
   ·show World.cell? w _ = _
    simp only [World.cell?, hg]
    simpa using hj
   ·cases hj)
 obtain ⟨z, hz⟩ : ∃ z, ((Tryz.prog.info? 52).getD default).zero = some z := ⟨_, show _ = some ((((Tryz.prog.info? 52).getD default).zero).getD undef) by kernel_rfl⟩
 have hzs : Hid (z.cells.size = 9) := by
  have h : (((Tryz.prog.info? 52).getD default).zero).getD undef = z := by rw [hz]; rfl
  show _ = _
  rw [← h]
  kernel_rfl
 obtain ⟨G, hG⟩ : ∃ G, G = grownCap w (n + 1) c 52 := ⟨_, rfl⟩
 have hGn : n + 1 ≤ G := by rw [hG]; exact grownCap_ge w _ _ _
 obtain ⟨zs, hzs'⟩ : ∃ zs : List Value, zs = (Builtin.zeroCells z.cells (G - (n + 1))).toList := ⟨_, rfl⟩
 have hzl : zs.length = (G - (n + 1)) * 9 := by rw [hzs', Array.length_toList, size_zeroCells, hzs.out]
 obtain ⟨ms, hms'⟩ : ∃ zs : List Value, zs = (Builtin.zeroCells z.cells (n + 1 - i)).toList := ⟨_, rfl⟩
 have hml : ms.length = (n + 1 - i) * 9 := by rw [hms', Array.length_toList, size_zeroCells, hzs.out]
 obtain ⟨A0, hA0⟩ : ∃ A : Array Value, A = (cur.toList.take (i * 9) ++ ms ++ zs).toArray := ⟨_, rfl⟩
 have hkk : (n : Int) + 1 - (i : Int) = ((n + 1 - i : Nat) : Int) := by omega
 have hik : i + (n + 1 - i) = n + 1 := by omega
 have hrz : ∀ ty, (Builtin.append_ #[27, 3] ty #[.slice (some ⟨b, 0, none⟩) i c, .int .i64 ((n : Int) + 1 - (i : Int))]).run Tryz.prog w = .ok (.slice (some ⟨w.heap.size, 0, none⟩) (n + 1) G) (w.drew.alloc (.cells A0 52)) := fun ty => by
  have h := Lib.run_append_grow_zeros w 27 3 ty 52 ((Tryz.prog.info? 52).getD default) z .i64 .i64 Tryz.underlying27 Tryz.underlying3 hi32 hz (some ⟨b, 0, none⟩) i c (cur.toList.take (i * 9)) hold (n + 1 - i) (by omega) (by rw [hsz8]; omega) (by omega) (by omega) (by rw [hby]; omega) (by rw [hby, hik]; exact growslice_fits hroom hbig)
  rw [hik, ← hG] at h
  rw [hkk, h, hA0, hzs', hms']
  congr 4
  apply Array.toList_inj.1
  simp
 obtain ⟨src, hsrc⟩ : ∃ src : List Value, src = (cur.toList.drop (i * 9)).take ((n - i) * 9) := ⟨_, rfl⟩
 have hsl : src.length = (n - i) * 9 := by rw [hsrc]; simp; omega
 have hA0s : A0.size = i * 9 + (n + 1 - i) * 9 + (G - (n + 1)) * 9 := by rw [hA0]; simp [hml, hzl]; omega
 obtain ⟨A1, hA1⟩ : ∃ A : Array Value, A = (A0.toList.take (i * 9) ++ vcur.toList.take 9 ++ A0.toList.drop (i * 9 + (vcur.toList.take 9).length)).toArray := ⟨_, rfl⟩
 have hA1s : A1.size = A0.size := by rw [hA1]; simp [hl8]; omega
 obtain ⟨A2, hA2⟩ : ∃ A : Array Value, A = (A1.toList.take ((i + 1) * 9) ++ src ++ A1.toList.drop ((i + 1) * 9 + src.length)).toArray := ⟨_, rfl⟩
 have hcpA : ∀ W : World, W.heap = (w.drew.alloc (.cells A0 52)).heap → ∀ ty dc sc, (Builtin.copy_ #[27, 27] ty #[.slice (some ⟨w.heap.size, i * 9, none⟩) (n + 1 - i) dc, .slice (some ⟨vb, 0, none⟩) 1 sc]).run Tryz.prog W = .ok (goInt (1 : Nat)) (W.setRow w.heap.size A1) := fun W hW ty dc sc => by
  rw [hA1]
  exact run_copy_rowN W 27 27 ty 52 _ w.heap.size (i * 9) _ _ ⟨vb, 0, none⟩ _ _ 1 A0 52 (vcur.toList.take 9) Tryz.underlying27 hi32 (by rw [hW]; exact heap_alloc_new w.drew _) (by simp only [Nat.min_def]; split <;> omega) (by rw [hsz8, hl8]) (fun j v hj => by
   rw [Addr.add_lit]
   rw [List.getElem?_take] at hj
   split at hj
   ·have : W.heap[vb]? = w.heap[vb]? := by rw [hW]; exact heap_alloc_old (w := w.drew) _ hvw
    simp only [World.cell?, this, hv]
    simpa using hj
   ·cases hj) (by rw [hl8, hA0s]; omega) h1v
 have hcpB : ∀ W : World, W.heap = ((w.drew.alloc (.cells A0 52)).setRow w.heap.size A1).heap → ∀ ty dc sc, (Builtin.copy_ #[27, 27] ty #[.slice (some ⟨w.heap.size, (i + 1) * 9, none⟩) (n - i) dc, .slice (some ⟨b, i * 9, none⟩) (n - i) sc]).run Tryz.prog W = .ok (goInt (n - i : Nat)) (W.setRow w.heap.size A2) := fun W hW ty dc sc => by
  rw [hA2]
  exact run_copy_rowN W 27 27 ty 52 _ w.heap.size ((i + 1) * 9) _ _ ⟨b, i * 9, none⟩ _ _ (n - i) A1 52 src Tryz.underlying27 hi32 (by rw [hW]; exact setRow_heap (w.drew.alloc (.cells A0 52)) w.heap.size A0 A1 52 _ (heap_alloc_new w.drew _)) (by simp only [Nat.min_def]; split <;> omega) (by rw [hsz8, hsl]) (fun j v hj => by
   rw [Addr.add_lit]
   rw [hsrc, List.getElem?_take] at hj
   split at hj
   ·rw [List.getElem?_drop] at hj
    have : W.heap[b]? = w.heap[b]? := by
     rw [hW]
     have hne' : ¬ w.heap.size = b := by omega
     simp only [World.setRow, Array.getElem?_modify, if_neg hne']
     exact heap_alloc_old (w := w.drew) _ hbw
    simp only [World.cell?, this, hg]
    simpa using hj
   ·cases hj) (by rw [hA1s, hA0s, hsl]; omega) (fun v hv => by rw [hsrc] at hv; exact h1c v (drop_take_mem (by omega) hv))
 have hfin : Hid (A2 = (cur.toList.take (i * 9) ++ vcur.toList.take 9 ++ (cur.toList.drop (i * 9)).take ((n - i) * 9) ++ zs).toArray) := by
  show A2 = _
  rw [hA2, hA1, hA0, ← hsrc, hl8]
  have e1 : (i + 1) * 9 = i * 9 + 9 := by omega
  rw [e1]
  have := grow_list (cur.toList.take (i * 9)) ms zs (vcur.toList.take 9) src (i * 9) 9 (by simp; omega) hl8 (by rw [hml, hsl]; omega)
  rw [← this]
 have hG93 : G ≤ 9223372036854775807 := by
  have := grownCap_le_maxLen w (n + 1) c 52 (by unfold maxLen; omega)
  rw [← hG] at this
  unfold maxLen at this
  omega
 have hw1 : IntKind.i64.wrap ((i : Int) + 1) = (i : Int) + 1 := by rw [IntKind.wrap_i64]; omega
 have hb1 : (0 : Int) ≤ (i : Int) + 1 := by omega
 have hin : i ≤ n := by omega
 have htn : ((i : Int) + 1).toNat = i + 1 := by omega
 have hb3 : (i : Int) ≤ (n : Int) := by omega
 have hGi : ¬ (G = i) := by omega
 have hGim : ¬ (G = i + 1) := by omega
 have hci : ¬ (c = i) := by omega
 clear hold hz hzs hG hzs' hms' hA0 hkk hik hsrc hsl hA0s hA1 hA1s hA2 hml hl8
 have mixed : Tryz.prog.follows .mixedOrders = true := by kernel_rfl
 go_enter Tryz.func93, Tryz.ntmps93
 go_wp2_with (at_builtin; refine Lib.wpList_append_run _ rfl _ _ _ _ rfl _ _ rfl rfl _ _ (hrz _) ?_)
 rw [hcpA ((w.alloc (.cells A0 52)).drew) rfl]
 go_wp2
 go_region_law_o (refine step_copy_runI rfl _ _ 27 27 rfl (.slice (some ⟨w.heap.size, (i + 1) * 9, none⟩) (n - i) (G - (i + 1))) (.slice (some ⟨b, i * 9, none⟩) (n - i) (c - i)) (by simp [Act.eval, Act.put]) (by simp [Act.eval, Act.put]) (hcpB (((w.alloc (.cells A0 52)).drew.setRow w.heap.size A1).drew) rfl _ _ _) ?_)
 go_wp2
 go_ret
 refine ⟨G, zs, w.drew.drew, hGn, hzl, rfl, rfl, ⟨rfl, rfl, rfl⟩, ?_⟩
 rw [← hfin.out]
 have q1 : (w.alloc (.cells A0 52)).drew.setRow w.heap.size A1 = w.drew.alloc (.cells A1 52) := World.setRow_alloc_new w.drew A0 A1 52
 rw [q1]
 exact World.setRow_alloc_new w.drew.drew A1 A2 52
theorem insC93 : InsC Tryz.prog 93 9 64 := by
 refine ⟨⟨Tryz.f93, Tryz.func93, by kernel_rfl, by kernel_rfl⟩, ?_, ?_⟩
 rotate_left
 ·intro w ax vb vc vcur T2 hv hvs hbig h1v
  refine (ins93_nil w ax vb vc vcur T2 hv hvs hbig h1v).mono ?_
  rintro e w' ⟨G, zs, hG, hz, rfl, rfl⟩
  refine ⟨G, _, 52, zs, rfl, heap_alloc_new w.drew _, hG, ?_, ?_, ?_, fun k hk => heap_alloc_old (w := w.drew) _ hk, ⟨rfl, rfl, rfl⟩⟩
  ·simp [hz]; omega
  ·simp
  ·rw [World.size_alloc]; exact Nat.le_succ _
 intro w b vb n c i vc cur vcur T T2 hg hv hne hs hvs hnc hin hbig h1c h1v
 have hbw : b < w.heap.size := (Array.getElem?_eq_some_iff.1 hg).1
 by_cases hroom : n + 1 ≤ c
 ·have old : ∀ (W : World) (A : Array Value), W.heap = w.heap → ∀ k, k < w.heap.size → k ≠ b → (W.setRow b A).heap[k]? = w.heap[k]? := by
   intro W A hW k _ hk
   simp only [World.setRow, Array.getElem?_modify, if_neg (Ne.symm hk), hW]
  have new : ∀ (W : World) (A : Array Value), W.heap = w.heap → (W.setRow b A).heap[b]? = some (.cells A T (0, 0)) := by
   intro W A hW
   exact setRow_heap W b cur A T _ (by rw [hW]; exact hg)
  by_cases hi : i < n
  ·refine (ins93_shift w b vb n c i vc cur vcur T T2 hg hv hne hs hvs hi hroom (by omega) h1c h1v).mono ?_
   rintro e w' ⟨rfl, W, hW, hq, rfl⟩
   exact ⟨b, c, _, T, _, rfl, new W _ hW, hroom, by simp; omega, rfl, .inl rfl, by rw [size_setRow, hW]; exact Nat.le_refl _, old W _ hW, hq.trans (Quiet.setRow _ _ _)⟩
  ·obtain rfl : i = n := by omega
   refine (ins93_room w b vb i c vc cur vcur T T2 hg hv hs hvs hroom (by omega) h1v).mono ?_
   rintro e w' ⟨rfl, rfl⟩
   refine ⟨b, c, _, T, cur.toList.drop ((i + 1) * 9), rfl, new w _ rfl, hroom, by simp; omega, ?_, .inl rfl, by rw [size_setRow]; exact Nat.le_refl _, old w _ rfl, Quiet.setRow _ _ _⟩
   simp
 ·have hc : c < n + 1 := by omega
  by_cases hi : i < n
  ·refine (ins93_grow w b vb n c i vc cur vcur T T2 hg hv hs hvs hi hnc hc hbig h1c h1v).mono ?_
   rintro e w' ⟨G, zs, W, hG, hz, rfl, hW, hq, rfl⟩
   refine ⟨w.heap.size, G, _, 52, zs, rfl, ?_, hG, ?_, rfl, .inr rfl, ?_, fun k hk _ => ?_, hq.trans (Quiet.alloc _ _)⟩
   ·rw [← hW]; exact heap_alloc_new W _
   ·simp [hz]; omega
   ·rw [World.size_alloc, hW]; exact Nat.le_succ _
   ·exact (heap_alloc_old (w := W) _ (by rw [hW]; exact hk)).trans (by rw [hW])
  ·obtain rfl : i = n := by omega
   refine (ins93_end w b vb i c vc cur vcur T T2 hg hv hs hvs hnc hc hbig h1v).mono ?_
   rintro e w' ⟨G, zs, hG, hz, rfl, rfl⟩
   refine ⟨w.heap.size, G, _, 52, zs, rfl, heap_alloc_new w.drew _, hG, ?_, ?_, .inr rfl, ?_, fun k hk _ => heap_alloc_old (w := w.drew) _ hk, ⟨rfl, rfl, rfl⟩⟩
   ·simp [hz]; omega
   ·simp
   ·rw [World.size_alloc]; exact Nat.le_succ _
end Go.Av
end
section
set_option linter.unusedVariables false
set_option linter.unusedSimpArgs false
set_option maxRecDepth 100000
set_option maxHeartbeats 8000000
namespace Go.Av.G
open Go Go.Av Go.Proofs
theorem slices_Clone94_ok {l r : List T_api_Hold} (h : slices_Clone 64 l = some r) : Contract Tryz.prog 94 [Vl T_api_Hold.pv l] [] ⟨.own (.res 0), [some (.row 9 (List.map T_api_Hold.pv r))], []⟩ := by
 obtain ⟨hb, rfl⟩ := slices_Clone_spec h
 exact clone_row (P := Tryz.prog) Tryz.laysClone94 ((Tryz.prog.info? 52).getD default) ((((Tryz.prog.info? 52).getD default).zero).getD undef) 9 64 (by kernel_rfl) (by kernel_rfl) (by kernel_rfl) (by kernel_rfl) (by kernel_rfl) (by decide) Tryz.sizeOf52 ⟨Tryz.f94, Tryz.func94, by kernel_rfl, by kernel_rfl⟩ (fun _ => rfl) hb (by decide)
theorem slices_Clone95_ok {l r : List T_api_Customer} (h : slices_Clone 32 l = some r) : Contract Tryz.prog 95 [Vl T_api_Customer.pv l] [] ⟨.own (.res 0), [some (.row 3 (List.map T_api_Customer.pv r))], []⟩ := by
 obtain ⟨hb, rfl⟩ := slices_Clone_spec h
 exact clone_row (P := Tryz.prog) Tryz.laysClone95 ((Tryz.prog.info? 123).getD default) ((((Tryz.prog.info? 123).getD default).zero).getD undef) 3 32 (by kernel_rfl) (by kernel_rfl) (by kernel_rfl) (by kernel_rfl) (by kernel_rfl) (by decide) Tryz.sizeOf123 ⟨Tryz.f95, Tryz.func95, by kernel_rfl, by kernel_rfl⟩ (fun _ => rfl) hb (by decide)
theorem slices_Clone96_ok {l r : List T_api_Record} (h : slices_Clone 56 l = some r) : Contract Tryz.prog 96 [Vl T_api_Record.pv l] [] ⟨.own (.res 0), [some (.row 8 (List.map T_api_Record.pv r))], []⟩ := by
 obtain ⟨hb, rfl⟩ := slices_Clone_spec h
 exact clone_row (P := Tryz.prog) Tryz.laysClone96 ((Tryz.prog.info? 87).getD default) ((((Tryz.prog.info? 87).getD default).zero).getD undef) 8 56 (by kernel_rfl) (by kernel_rfl) (by kernel_rfl) (by kernel_rfl) (by kernel_rfl) (by decide) Tryz.sizeOf87 ⟨Tryz.f96, Tryz.func96, by kernel_rfl, by kernel_rfl⟩ (fun _ => rfl) hb (by decide)
theorem slices_Clone97_ok {l r : List T_api_Leg} (h : slices_Clone 24 l = some r) : Contract Tryz.prog 97 [Vl T_api_Leg.pv l] [] ⟨.own (.res 0), [some (.row 3 (List.map T_api_Leg.pv r))], []⟩ := by
 obtain ⟨hb, rfl⟩ := slices_Clone_spec h
 exact clone_row (P := Tryz.prog) Tryz.laysClone97 ((Tryz.prog.info? 136).getD default) ((((Tryz.prog.info? 136).getD default).zero).getD undef) 3 24 (by kernel_rfl) (by kernel_rfl) (by kernel_rfl) (by kernel_rfl) (by kernel_rfl) (by decide) Tryz.sizeOf136 ⟨Tryz.f97, Tryz.func97, by kernel_rfl, by kernel_rfl⟩ (fun _ => rfl) hb (by decide)
theorem slices_Clone98_ok {l r : List T_api_Limit} (h : slices_Clone 16 l = some r) : Contract Tryz.prog 98 [Vl T_api_Limit.pv l] [] ⟨.own (.res 0), [some (.row 2 (List.map T_api_Limit.pv r))], []⟩ := by
 obtain ⟨hb, rfl⟩ := slices_Clone_spec h
 exact clone_row (P := Tryz.prog) Tryz.laysClone98 ((Tryz.prog.info? 79).getD default) ((((Tryz.prog.info? 79).getD default).zero).getD undef) 2 16 (by kernel_rfl) (by kernel_rfl) (by kernel_rfl) (by kernel_rfl) (by kernel_rfl) (by decide) Tryz.sizeOf79 ⟨Tryz.f98, Tryz.func98, by kernel_rfl, by kernel_rfl⟩ (fun _ => rfl) hb (by decide)
def Q31r0 : List GOp := [o0 1 (.box (.tmp 0)), o0 2 (.alloc [.nils, .nils, .nils, .nils, .nils])]
def Q31r1 : List GOp := [f0 7 0 1, t0 8 2 7, o0 3 (.alloc [.nils, .nils]), s0 2 3 8]
def Q31r2 : List GOp := [f0 9 0 3, l0 10 1 9, f0 11 0 3, l0 12 1 11, e0 13 12, o0 14 (.mm false (.tmp 13) [(.cst (.int .i64 20))]), o0 15 (.slc false 3 (.tmp 10) none (some (.tmp 14))), f0 16 1 3, l0 17 1 16, f0 18 1 3, l0 19 1 18, e0 20 19, o0 21 (.mm false (.tmp 20) [(.cst (.int .i64 30))]), o0 22 (.slc false 8 (.tmp 17) none (some (.tmp 21))), f0 23 0 3, s0 1 23 15, f0 24 1 3, s0 1 24 22]
def Q31r3 : List GOp := [t0 25 2 3, f0 26 0 1, s0 2 26 25]
def Q31r4 : List GOp := [f0 27 2 1, l0 28 1 27, e0 29 28, q0 30 .leq 29 2000]
def Q31r5 : List GOp := [o0 4 (.mov .nils)]
def Q31r6 : List GOp := [f0 31 2 1, l0 32 1 31, f0 33 2 1, l0 34 1 33, e0 35 34, o0 36 (.mm false (.tmp 35) [(.cst (.int .i64 40))]), o0 37 (.slc false 7 (.tmp 32) none (some (.tmp 36))), e0 38 37, k0 39 0]
def Q31r7 : List GOp := [p0 40 .lss 39 38]
def Q31r8 : List GOp := [i0 41 7 37 39, t0 42 7 41, o0 6 (.alloc [.pv (.int .i64 0), .pv (.int .i32 0), .pv (.int .i32 0), .nils, .pv (.int .i64 0), .pv (.int .i64 0), .pv (.str [])]), s0 7 6 42]
def Q31r9 : List GOp := [f0 43 3 6, l0 44 1 43, f0 45 3 6, l0 46 1 45, e0 47 46, o0 48 (.mm false (.tmp 47) [(.cst (.int .i64 6))]), o0 49 (.slc false 3 (.tmp 44) none (some (.tmp 48))), f0 50 3 6, s0 1 50 49]
def Q31r10 : List GOp := [m0 51 4, t0 52 7 6, o0 53 (.lit false 7 [(.tmp 52)]), o0 54 (.append 4 7 72 (.tmp 51) (.tmp 53)), m0 4 54]
def Q31r11 : List GOp := [q0 55 .add 39 1, m0 39 55]
def Q31l12 : AC := (.keep [] [(1, false), (2, false), (4, false), (37, false), (38, false), (39, false)] [(.loc 4 0, false), (.loc 1 0, false), (.loc 2 0, false)] [.loc 3 0, .loc 6 0] [.slot 4 (.loc 4 0) 7] (.seq (.ops Q31r7) (.seq (.cond (.tmp 40) .skip (.exit 0)) (.seq (.pass 1 (.seq (.ops Q31r8) (.seq (.ops Q31r9) (.ops Q31r10)))) (.ops Q31r11)))))
def Q31r13 : List GOp := [m0 56 4, f0 57 2 1, s0 1 57 56]
def Q31r14 : List GOp := [f0 58 3 1, l0 59 1 58, f0 60 3 1, l0 61 1 60, e0 62 61, o0 63 (.mm false (.tmp 62) [(.cst (.int .i64 40))]), o0 64 (.slc false 9 (.tmp 59) none (some (.tmp 63))), f0 65 4 1, l0 66 1 65, f0 67 4 1, l0 68 1 67, e0 69 68, o0 70 (.mm false (.tmp 69) [(.cst (.int .i64 40))]), o0 71 (.slc false 2 (.tmp 66) none (some (.tmp 70))), f0 72 3 1, s0 1 72 64, f0 73 4 1, s0 1 73 71]
def Q31r15 : List GOp := [t0 74 5 1, s0 5 2 74]
def Q31b : AC := (.seq (.ops Q31r0) (.seq (.ops Q31r1) (.seq (.draw [] Q31r2) (.seq (.ops Q31r3) (.seq (.seq (.ops Q31r4) (.cond (.tmp 30) (.seq (.ops Q31r5) (.seq (.seq (.ops Q31r6) (.block 0 (.loop [1, 2, 4, 37, 38, 39] [] Q31l12))) (.keep [.loc 4 0] [(1, false), (2, false), (4, true)] [(.loc 1 0, false), (.loc 2 0, false)] [.loc 3 0] [] (.ops Q31r13)))) .skip)) (.seq (.keep [] [(1, false), (2, false)] [(.loc 1 0, false), (.loc 2 0, false)] [.loc 3 0] [] (.draw [] Q31r14)) (.seq (.ops Q31r15) (.keep [] [(2, false)] [(.loc 2 0, false)] [.loc 1 0] [] .ret))))))))
def Q31 : Fd := ⟨1, [.cell 2 true 5], [], Q31b⟩
theorem Q31_ag : agreeF Tryz.prog Tryz.f7 Q31 = true := by kernel_rfl
theorem cashbooklaw26_few_ok {t1 : T_api_Till} {r : T_api_Till} (h : cashbooklaw26_few t1 = some r) : Contract Tryz.prog 7 [.pv (T_api_Till.pv t1)] [] ⟨.pv (T_api_Till.pv r), [], []⟩ := by
 refine contract_fin hm Tryz.func7 Q31_ag (by kernel_rfl) ?_
 unfold cashbooklaw26_few at h
 refine W.seqOps Aw ?_
 refine W.seqOps Aw ?_
 obtain ⟨x2, hx2, h⟩ := bindS h
 obtain ⟨x3, hx3, h⟩ := bindS h
 refine W.seqDraw tab_nil (Dw 4 (Run.dyn (Lw T_api_Customer.pv t1.f_Chart.f_Customers) (Dw 1 (Run.dyn (Step.slcL (f := T_api_Customer.pv) (l := t1.f_Chart.f_Customers) (m := x2) (a := 0) (b := (if 20 < (t1.f_Chart.f_Customers.length : Int) then 20 else (t1.f_Chart.f_Customers.length : Int))) (by kernel_rfl) (Bd.none rfl) (Bd.some (k := .i64) (by kernel_rfl)) hx2 (fun _ => rfl)) (Dw 4 (Run.dyn (Lw T_api_Record.pv t1.f_Chart.f_Records) (Dw 1 (Run.dyn (Step.slcL (f := T_api_Record.pv) (l := t1.f_Chart.f_Records) (m := x3) (a := 0) (b := (if 30 < (t1.f_Chart.f_Records.length : Int) then 30 else (t1.f_Chart.f_Records.length : Int))) (by kernel_rfl) (Bd.none rfl) (Bd.some (k := .i64) (by kernel_rfl)) hx3 (fun _ => rfl)) Cw)))))))) ?_
 refine W.seqOps Aw ?_
 refine W.assoc ?_
 refine W.seqOps (Bw 2 (RunR.dyn (Lw T_api_Posting.pv t1.f_L) Aw)) ?_
 obtain ⟨j4, hj4, h⟩ := bindS h
 refine W.join (j := j4) (fun p σ => σ.tidy [] [(1, false), (2, false)] [(.loc 1 0, false), (.loc 2 0, false)] [.loc 3 0] [] = ⟨[(1, .ptr (.loc 1 0) 0), (2, .ptr (.loc 2 0) 0)], [(.loc 1 0, .box [Vl T_api_Customer.pv x2, Vl T_api_Record.pv x3, Vl T_api_Posting.pv p, Vl T_api_Hold.pv t1.f_Holds, Vl T_api_Limit.pv t1.f_Limits]), (.loc 2 0, .box [.nils, .nils, .nils, .nils, .nils])]⟩) ?_ (fun σj4 hsj4 => ?_)
 ·replace h := hj4
  refine W.condI (t := decide ((t1.f_L.length : Int) ≤ 2000)) (by kernel_rfl) h (fun hc h' => ?_) (fun hc h' => ?_)
  ·replace h := h'
   refine W.seqOps Aw ?_
   refine W.assoc ?_
   obtain ⟨x5, hx5, h⟩ := bindS h
   refine W.seqOps (Bw 4 (RunR.dyn (Lw T_api_Posting.pv t1.f_L) (Bw 1 (RunR.dyn (Step.slcL (f := T_api_Posting.pv) (l := t1.f_L) (m := x5) (a := 0) (b := (if 40 < (t1.f_L.length : Int) then 40 else (t1.f_L.length : Int))) (by kernel_rfl) (Bd.none rfl) (Bd.some (k := .i64) (by kernel_rfl)) hx5 (fun _ => rfl)) (RunR.dyn (Lw T_api_Posting.pv x5) Aw))))) ?_
   obtain ⟨j6, hj6, h⟩ := bindS h
   refine W.join (j := j6) (fun p σ => σ.tidy [.loc 4 0] [(1, false), (2, false), (4, true)] [(.loc 1 0, false), (.loc 2 0, false)] [.loc 3 0] [] = ⟨[(1, .ptr (.loc 1 0) 0), (2, .ptr (.loc 2 0) 0), (4, Vl T_api_Posting.pv p)], [(.loc 1 0, .box [Vl T_api_Customer.pv x2, Vl T_api_Record.pv x3, Vl T_api_Posting.pv t1.f_L, Vl T_api_Hold.pv t1.f_Holds, Vl T_api_Limit.pv t1.f_Limits]), (.loc 2 0, .box [.nils, .nils, .nils, .nils, .nils])]⟩) ?_ (fun σj6 hsj6 => ?_)
   ·refine W.blockLoop (fun q σ => ((σ.forget [1, 2, 4, 37, 38, 39]).killAll []).tidy [] [(1, false), (2, false), (4, false), (37, false), (38, false), (39, false)] [(.loc 4 0, false), (.loc 1 0, false), (.loc 2 0, false)] [.loc 3 0, .loc 6 0] [.slot 4 (.loc 4 0) 7] = ⟨[(1, .ptr (.loc 1 0) 0), (2, .ptr (.loc 2 0) 0), (4, .own (.loc 4 0)), (37, Vl T_api_Posting.pv x5), (38, Vi (x5.length : Int)), (39, Vi q.1)], [(.loc 4 0, .row 7 (List.map T_api_Posting.pv q.2)), (.loc 1 0, .box [Vl T_api_Customer.pv x2, Vl T_api_Record.pv x3, Vl T_api_Posting.pv t1.f_L, Vl T_api_Hold.pv t1.f_Holds, Vl T_api_Limit.pv t1.f_Limits]), (.loc 2 0, .box [.nils, .nils, .nils, .nils, .nils])]⟩) hj6 ?_ ?_
    ·show _ = _
     kernel_rfl
    ·intro q σj6 oj6 hJj6 h
     obtain ⟨x7, row8⟩ := q
     refine W.keep hJj6 ?_
     refine W.seqOps Aw ?_
     refine W.seqCond (t := decide (x7 < (x5.length : Int))) (by kernel_rfl) h (fun hc h' => ?_) (fun hc h' => ?_)
     ·replace h := h'
      refine W.seqSkip ?_
      refine W.seqPass ?_
      refine W.assoc ?_
      obtain ⟨x9, hx9, h⟩ := bindS h
      refine W.seqOps (RunR.dyn (Iw T_api_Posting.pv x5 x7 x9 hx9) Aw) ?_
      refine W.assoc ?_
      obtain ⟨x10, hx10, h⟩ := bindS h
      refine W.seqOps (Bw 4 (RunR.dyn (Lw T_api_Leg.pv x9.f_Legs) (Bw 1 (RunR.dyn (Step.slcL (f := T_api_Leg.pv) (l := x9.f_Legs) (m := x10) (a := 0) (b := (if 6 < (x9.f_Legs.length : Int) then 6 else (x9.f_Legs.length : Int))) (by kernel_rfl) (Bd.none rfl) (Bd.some (k := .i64) (by kernel_rfl)) hx10 (fun _ => rfl)) Aw)))) ?_
      obtain ⟨x11, hx11, h⟩ := bindS h
      refine W.seqOps (Bw 3 (RunR.dyn (Step.appendOwnT (k := .loc 4 0) (f := T_api_Posting.pv) (l := row8) (m := [(⟨x9.f_ID, x9.f_Known, x9.f_Value, x10, x9.f_Reverses, x9.f_Kind, x9.f_Memo⟩ : T_api_Posting)]) (by kernel_rfl) (by kernel_rfl) (by kernel_rfl) hx11 (fun _ => rfl) (by kernel_rfl)) Aw)) ?_
      refine W.ops Aw ?_
      cases h
      exact Ow
     ·replace h := h'
      cases h
      exact W.seqExit ((outw_out exit_ne (bnorm_x (by (show _ = _); kernel_rfl))))
   ·refine W.keep hsj6 ?_
    refine W.ops Aw ?_
    cases h
    exact Jw
  ·replace h := h'
   cases h
   exact W.skip Jw
 ·refine W.seqKeep hsj4 ?_
  obtain ⟨x14, hx14, h⟩ := bindS h
  obtain ⟨x15, hx15, h⟩ := bindS h
  refine W.seqDraw tab_nil (Dw 4 (Run.dyn (Lw T_api_Hold.pv t1.f_Holds) (Dw 1 (Run.dyn (Step.slcL (f := T_api_Hold.pv) (l := t1.f_Holds) (m := x14) (a := 0) (b := (if 40 < (t1.f_Holds.length : Int) then 40 else (t1.f_Holds.length : Int))) (by kernel_rfl) (Bd.none rfl) (Bd.some (k := .i64) (by kernel_rfl)) hx14 (fun _ => rfl)) (Dw 4 (Run.dyn (Lw T_api_Limit.pv t1.f_Limits) (Dw 1 (Run.dyn (Step.slcL (f := T_api_Limit.pv) (l := t1.f_Limits) (m := x15) (a := 0) (b := (if 40 < (t1.f_Limits.length : Int) then 40 else (t1.f_Limits.length : Int))) (by kernel_rfl) (Bd.none rfl) (Bd.some (k := .i64) (by kernel_rfl)) hx15 (fun _ => rfl)) Cw)))))))) ?_
  refine W.seqOps Aw ?_
  refine W.keep rfl ?_
  cases h
  exact W.ret Fw
def Q36r0 : List GOp := [b0 6 false]
def Q36r1 : List GOp := [m0 7 0, m0 8 1, p0 9 .geq 7 8, m0 10 9, g0 11 10 true (.mov (.tmp 0)), g0 12 10 true (.mov (.tmp 2)), g0 13 10 true (.bin false .leq (.tmp 11) (.tmp 12)), o0 14 (.pick (.tmp 10) (.tmp 13) (.cst (.bool false))), m0 6 14]
def Q36b : AC := (.seq (.ops Q36r0) (.seq (.ops Q36r1) (.keep [] [(6, false)] [] [] [] .ret)))
def Q36 : Fd := ⟨3, [.tmp 6], [], Q36b⟩
theorem Q36_ag : agreeF Tryz.prog Tryz.f33 Q36 = true := by kernel_rfl
theorem avail_in_Account_ok {n1 : Int} {low2 : Int} {high3 : Int} {r : Bool} (h : avail_in_Account n1 low2 high3 = some r) : Contract Tryz.prog 33 [Vi n1, Vi low2, Vi high3] [] ⟨Vb r, [], []⟩ := by
 refine contract_fin hm Tryz.func33 Q36_ag (by kernel_rfl) ?_
 unfold avail_in_Account at h
 refine W.seqOps Aw ?_
 obtain ⟨c4, hc4, h⟩ := bindS h
 refine W.seqOps (Bw 3 (RunR.dyn (Nw (decide (n1 ≥ low2)) c4 hc4) (RunR.puts 4 [(14, Vb (c4 && (decide (n1 ≤ high3)))), (13, (Bf c4 (Vb (decide (n1 ≤ high3))))), (12, (Bf c4 (Vi high3))), (11, (Bf c4 (Vi n1)))] (by cases c4 <;> kernel_rfl) Aw))) ?_
 refine W.keep rfl ?_
 cases h
 exact W.ret Fw
def Q40r0 : List GOp := [b0 6 false]
def Q40r1 : List GOp := [m0 7 0, m0 8 1, p0 9 .geq 7 8, m0 10 9, g0 11 10 true (.mov (.tmp 0)), g0 12 10 true (.mov (.tmp 2)), g0 13 10 true (.bin false .leq (.tmp 11) (.tmp 12)), o0 14 (.pick (.tmp 10) (.tmp 13) (.cst (.bool false))), m0 6 14]
def Q40b : AC := (.seq (.ops Q40r0) (.seq (.ops Q40r1) (.keep [] [(6, false)] [] [] [] .ret)))
def Q40 : Fd := ⟨3, [.tmp 6], [], Q40b⟩
theorem Q40_ag : agreeF Tryz.prog Tryz.f32 Q40 = true := by kernel_rfl
theorem avail_in_int64_ok {n1 : Int} {low2 : Int} {high3 : Int} {r : Bool} (h : avail_in_int64 n1 low2 high3 = some r) : Contract Tryz.prog 32 [Vi n1, Vi low2, Vi high3] [] ⟨Vb r, [], []⟩ := by
 refine contract_fin hm Tryz.func32 Q40_ag (by kernel_rfl) ?_
 unfold avail_in_int64 at h
 refine W.seqOps Aw ?_
 obtain ⟨c4, hc4, h⟩ := bindS h
 refine W.seqOps (Bw 3 (RunR.dyn (Nw (decide (n1 ≥ low2)) c4 hc4) (RunR.puts 4 [(14, Vb (c4 && (decide (n1 ≤ high3)))), (13, (Bf c4 (Vb (decide (n1 ≤ high3))))), (12, (Bf c4 (Vi high3))), (11, (Bf c4 (Vi n1)))] (by cases c4 <;> kernel_rfl) Aw))) ?_
 refine W.keep rfl ?_
 cases h
 exact W.ret Fw
def Q66r0 : List GOp := [o0 1 (.box (.tmp 0)), k0 2 0]
def Q66r1 : List GOp := [f0 3 0 1, l0 4 1 3, m0 2 4]
def Q66b : AC := (.seq (.ops Q66r0) (.seq (.ops Q66r1) (.keep [] [(2, false)] [] [.loc 1 0] [] .ret)))
def Q66 : Fd := ⟨1, [.tmp 2], [], Q66b⟩
theorem Q66_ag : agreeF Tryz.prog Tryz.f73 Q66 = true := by kernel_rfl
theorem chart_idOf_ok {x1 : T_api_Customer} {r : Int} (h : chart_idOf x1 = some r) : Contract Tryz.prog 73 [.pv (T_api_Customer.pv x1)] [] ⟨Vi r, [], []⟩ := by
 refine contract_fin hm Tryz.func73 Q66_ag (by kernel_rfl) ?_
 unfold chart_idOf at h
 refine W.seqOps Aw ?_
 refine W.seqOps Aw ?_
 refine W.keep rfl ?_
 cases h
 exact W.ret Fw
def Q25r0 : List GOp := [b0 4 false]
def Q25r1 : List GOp := [k0 5 1]
def Q25r2 : List GOp := [m0 6 5, m0 7 0, e0 8 7, p0 9 .lss 6 8]
def Q25r3 : List GOp := [m0 12 1, m0 13 0, m0 14 5, q0 15 .sub 14 1, i0 16 3 13 15, t0 17 3 16, o0 18 (.call 0 0 (.tmp 12) [(.tmp 17)] [] []), m0 19 1, m0 20 0, m0 21 5, i0 22 3 20 21, t0 23 3 22, o0 24 (.call 0 0 (.tmp 19) [(.tmp 23)] [] []), p0 25 .geq 18 24]
def Q25r4 : List GOp := [b0 4 false]
def Q25r5 : List GOp := [m0 10 5, q0 11 .add 10 1, m0 5 11]
def Q25l6 : AC := (.keep [] [(0, false), (1, false), (5, false)] [] [] [] (.seq (.seq (.ops Q25r2) (.cond (.tmp 9) .skip (.exit 0))) (.seq (.pass 1 (.seq (.draw [] Q25r3) (.cond (.tmp 25) (.seq (.ops Q25r4) (.keep [] [(4, false)] [] [] [] .ret)) .skip))) (.ops Q25r5))))
def Q25r7 : List GOp := [b0 4 true]
def Q25b : AC := (.seq (.ops Q25r0) (.seq (.seq (.ops Q25r1) (.block 0 (.loop [0, 1, 5] [] Q25l6))) (.seq (.keep [] [] [] [] [] (.ops Q25r7)) (.keep [] [(4, false)] [] [] [] .ret))))
def Q25 : Fd := ⟨2, [.tmp 4], [], Q25b⟩
theorem Q25_ag : agreeF Tryz.prog Tryz.f72 Q25 = true := by kernel_rfl
theorem chart_rises_Customer_int_ok {l1 : List T_api_Customer} {r : Bool} (h : chart_rises_Customer_int l1 = some r) : Contract Tryz.prog 72 [Vl T_api_Customer.pv l1, .pv (.fn 73)] [] ⟨Vb r, [], []⟩ := by
 refine contract_fin hm Tryz.func72 Q25_ag (by kernel_rfl) ?_
 unfold chart_rises_Customer_int at h
 refine W.seqOps Aw ?_
 refine W.assoc ?_
 refine W.seqOps Aw ?_
 obtain ⟨j2, hj2, h⟩ := bindS h
 refine W.joinOut (j := j2) (o := r) (fun p σ => σ.tidy [] [] [] [] [] = ⟨[], []⟩) ?_ (fun p σj2 hp hsj2 => ?_) (fun p hp => ?_)
 ·refine W.blockLoopO (fun q σ => ((σ.forget [0, 1, 5]).killAll []).tidy [] [(0, false), (1, false), (5, false)] [] [] [] = ⟨[(0, Vl T_api_Customer.pv l1), (1, .pv (.fn 73)), (5, Vi q)], []⟩) hj2 ?_ ?_
  ·show _ = _
   kernel_rfl
  ·intro i3 σj2 oj2 hJj2 h
   refine W.keep hJj2 ?_
   refine W.assoc ?_
   refine W.seqOps (Bw 2 (RunR.dyn (Lw T_api_Customer.pv l1) Aw)) ?_
   refine W.seqCond (t := decide (i3 < (l1.length : Int))) (by kernel_rfl) h (fun hc h' => ?_) (fun hc h' => ?_)
   ·replace h := h'
    refine W.seqSkip ?_
    refine W.seqPass ?_
    refine W.assoc ?_
    obtain ⟨x4, hx4, h⟩ := bindS h
    obtain ⟨x5, hx5, h⟩ := bindS h
    obtain ⟨x6, hx6, h⟩ := bindS h
    obtain ⟨x7, hx7, h⟩ := bindS h
    refine W.seqDraw (Tw (chart_idOf_ok hx5) (Tw (chart_idOf_ok hx7) tab_nil)) (Dw 4 (Run.dyn (Iw T_api_Customer.pv l1 (IntKind.wrap .i64 (i3 - 1)) x4 hx4) (Dw 1 (Run.dyn (Kw 73 [] (Vi x5) Hw) (Dw 3 (Run.dyn (Iw T_api_Customer.pv l1 i3 x6 hx6) (Dw 1 (Run.dyn (Kw 73 [] (Vi x7) (tab_same (fun ho e => congrArg (fun r => (⟨Vi r, [], []⟩ : Res)) (Option.some.inj ((Eq.symm hx5).trans (Eq.trans (by first | rfl | (simp only [List.cons.injEq, SV.pv.injEq, PV.int.injEq, PV.bool.injEq, PV.str.injEq, PV.slice.injEq, and_true, true_and, eInt_maps, eStr_maps, eBool_maps, T_api_Customer.pv_inj, T_api_Customer.pv_maps, T_api_Record.pv_inj, T_api_Record.pv_maps, T_api_Chart.pv_inj, T_api_Chart.pv_maps, T_api_Money.pv_inj, T_api_Money.pv_maps, T_api_Leg.pv_inj, T_api_Leg.pv_maps, T_api_Posting.pv_inj, T_api_Posting.pv_maps, T_api_Hold.pv_inj, T_api_Hold.pv_maps, T_api_Limit.pv_inj, T_api_Limit.pv_maps, T_api_Till.pv_inj, T_api_Till.pv_maps, T_balance_great.pv_inj, T_balance_great.pv_maps, T_balance_leg.pv_inj, T_balance_leg.pv_maps, T_avail_account.pv_inj, T_avail_account.pv_maps, T_api_Covered.pv_inj, T_api_Covered.pv_maps] at e; simp only [e])) hx7)))) Hw)) Cw)))))))) ?_
    refine W.seqCond (t := decide (x5 ≥ x7)) (by kernel_rfl) h (fun hc h' => ?_) (fun hc h' => ?_)
    ·replace h := h'
     refine W.assoc ?_
     refine W.seqOps Aw ?_
     refine W.seqKeep rfl ?_
     cases h
     exact W.seqRet ((outw_out ret_ne (bout_o ret_ne ret_ne' (fun e => by subst e; exact Fw))))
    ·replace h := h'
     refine W.seqSkip ?_
     refine W.ops Aw ?_
     cases h
     exact Ow
   ·replace h := h'
    cases h
    exact W.seqExit ((outw_out exit_ne (bout_x (by (show _ = _); kernel_rfl))))
 ·subst hp
  obtain ⟨⟩ := p
  refine W.seqKeep hsj2 ?_
  refine W.seqOps Aw ?_
  refine W.keep rfl ?_
  cases h
  exact W.ret Fw
 ·subst hp
  exact Option.some.inj h
def Q57r0 : List GOp := [o0 1 (.box (.tmp 0)), k0 2 0]
def Q57r1 : List GOp := [f0 3 0 1, l0 4 1 3, m0 2 4]
def Q57b : AC := (.seq (.ops Q57r0) (.seq (.ops Q57r1) (.keep [] [(2, false)] [] [.loc 1 0] [] .ret)))
def Q57 : Fd := ⟨1, [.tmp 2], [], Q57b⟩
theorem Q57_ag : agreeF Tryz.prog Tryz.f75 Q57 = true := by kernel_rfl
theorem chart_accOf_ok {r1 : T_api_Record} {r : Int} (h : chart_accOf r1 = some r) : Contract Tryz.prog 75 [.pv (T_api_Record.pv r1)] [] ⟨Vi r, [], []⟩ := by
 refine contract_fin hm Tryz.func75 Q57_ag (by kernel_rfl) ?_
 unfold chart_accOf at h
 refine W.seqOps Aw ?_
 refine W.seqOps Aw ?_
 refine W.keep rfl ?_
 cases h
 exact W.ret Fw
def Q17r0 : List GOp := [b0 4 false]
def Q17r1 : List GOp := [k0 5 1]
def Q17r2 : List GOp := [m0 6 5, m0 7 0, e0 8 7, p0 9 .lss 6 8]
def Q17r3 : List GOp := [m0 12 1, m0 13 0, m0 14 5, q0 15 .sub 14 1, i0 16 8 13 15, t0 17 8 16, o0 18 (.call 0 0 (.tmp 12) [(.tmp 17)] [] []), m0 19 1, m0 20 0, m0 21 5, i0 22 8 20 21, t0 23 8 22, o0 24 (.call 0 0 (.tmp 19) [(.tmp 23)] [] []), p0 25 .geq 18 24]
def Q17r4 : List GOp := [b0 4 false]
def Q17r5 : List GOp := [m0 10 5, q0 11 .add 10 1, m0 5 11]
def Q17l6 : AC := (.keep [] [(0, false), (1, false), (5, false)] [] [] [] (.seq (.seq (.ops Q17r2) (.cond (.tmp 9) .skip (.exit 0))) (.seq (.pass 1 (.seq (.draw [] Q17r3) (.cond (.tmp 25) (.seq (.ops Q17r4) (.keep [] [(4, false)] [] [] [] .ret)) .skip))) (.ops Q17r5))))
def Q17r7 : List GOp := [b0 4 true]
def Q17b : AC := (.seq (.ops Q17r0) (.seq (.seq (.ops Q17r1) (.block 0 (.loop [0, 1, 5] [] Q17l6))) (.seq (.keep [] [] [] [] [] (.ops Q17r7)) (.keep [] [(4, false)] [] [] [] .ret))))
def Q17 : Fd := ⟨2, [.tmp 4], [], Q17b⟩
theorem Q17_ag : agreeF Tryz.prog Tryz.f74 Q17 = true := by kernel_rfl
theorem chart_rises_Record_Account_ok {l1 : List T_api_Record} {r : Bool} (h : chart_rises_Record_Account l1 = some r) : Contract Tryz.prog 74 [Vl T_api_Record.pv l1, .pv (.fn 75)] [] ⟨Vb r, [], []⟩ := by
 refine contract_fin hm Tryz.func74 Q17_ag (by kernel_rfl) ?_
 unfold chart_rises_Record_Account at h
 refine W.seqOps Aw ?_
 refine W.assoc ?_
 refine W.seqOps Aw ?_
 obtain ⟨j2, hj2, h⟩ := bindS h
 refine W.joinOut (j := j2) (o := r) (fun p σ => σ.tidy [] [] [] [] [] = ⟨[], []⟩) ?_ (fun p σj2 hp hsj2 => ?_) (fun p hp => ?_)
 ·refine W.blockLoopO (fun q σ => ((σ.forget [0, 1, 5]).killAll []).tidy [] [(0, false), (1, false), (5, false)] [] [] [] = ⟨[(0, Vl T_api_Record.pv l1), (1, .pv (.fn 75)), (5, Vi q)], []⟩) hj2 ?_ ?_
  ·show _ = _
   kernel_rfl
  ·intro i3 σj2 oj2 hJj2 h
   refine W.keep hJj2 ?_
   refine W.assoc ?_
   refine W.seqOps (Bw 2 (RunR.dyn (Lw T_api_Record.pv l1) Aw)) ?_
   refine W.seqCond (t := decide (i3 < (l1.length : Int))) (by kernel_rfl) h (fun hc h' => ?_) (fun hc h' => ?_)
   ·replace h := h'
    refine W.seqSkip ?_
    refine W.seqPass ?_
    refine W.assoc ?_
    obtain ⟨x4, hx4, h⟩ := bindS h
    obtain ⟨x5, hx5, h⟩ := bindS h
    obtain ⟨x6, hx6, h⟩ := bindS h
    obtain ⟨x7, hx7, h⟩ := bindS h
    refine W.seqDraw (Tw (chart_accOf_ok hx5) (Tw (chart_accOf_ok hx7) tab_nil)) (Dw 4 (Run.dyn (Iw T_api_Record.pv l1 (IntKind.wrap .i64 (i3 - 1)) x4 hx4) (Dw 1 (Run.dyn (Kw 75 [] (Vi x5) Hw) (Dw 3 (Run.dyn (Iw T_api_Record.pv l1 i3 x6 hx6) (Dw 1 (Run.dyn (Kw 75 [] (Vi x7) (tab_same (fun ho e => congrArg (fun r => (⟨Vi r, [], []⟩ : Res)) (Option.some.inj ((Eq.symm hx5).trans (Eq.trans (by first | rfl | (simp only [List.cons.injEq, SV.pv.injEq, PV.int.injEq, PV.bool.injEq, PV.str.injEq, PV.slice.injEq, and_true, true_and, eInt_maps, eStr_maps, eBool_maps, T_api_Customer.pv_inj, T_api_Customer.pv_maps, T_api_Record.pv_inj, T_api_Record.pv_maps, T_api_Chart.pv_inj, T_api_Chart.pv_maps, T_api_Money.pv_inj, T_api_Money.pv_maps, T_api_Leg.pv_inj, T_api_Leg.pv_maps, T_api_Posting.pv_inj, T_api_Posting.pv_maps, T_api_Hold.pv_inj, T_api_Hold.pv_maps, T_api_Limit.pv_inj, T_api_Limit.pv_maps, T_api_Till.pv_inj, T_api_Till.pv_maps, T_balance_great.pv_inj, T_balance_great.pv_maps, T_balance_leg.pv_inj, T_balance_leg.pv_maps, T_avail_account.pv_inj, T_avail_account.pv_maps, T_api_Covered.pv_inj, T_api_Covered.pv_maps] at e; simp only [e])) hx7)))) Hw)) Cw)))))))) ?_
    refine W.seqCond (t := decide (x5 ≥ x7)) (by kernel_rfl) h (fun hc h' => ?_) (fun hc h' => ?_)
    ·replace h := h'
     refine W.assoc ?_
     refine W.seqOps Aw ?_
     refine W.seqKeep rfl ?_
     cases h
     exact W.seqRet ((outw_out ret_ne (bout_o ret_ne ret_ne' (fun e => by subst e; exact Fw))))
    ·replace h := h'
     refine W.seqSkip ?_
     refine W.ops Aw ?_
     cases h
     exact Ow
   ·replace h := h'
    cases h
    exact W.seqExit ((outw_out exit_ne (bout_x (by (show _ = _); kernel_rfl))))
 ·subst hp
  obtain ⟨⟩ := p
  refine W.seqKeep hsj2 ?_
  refine W.seqOps Aw ?_
  refine W.keep rfl ?_
  cases h
  exact W.ret Fw
 ·subst hp
  exact Option.some.inj h
def Q47r0 : List GOp := [b0 6 false]
def Q47r1 : List GOp := [m0 7 0, m0 8 1, p0 9 .geq 7 8, m0 10 9, g0 11 10 true (.mov (.tmp 0)), g0 12 10 true (.mov (.tmp 2)), g0 13 10 true (.bin false .leq (.tmp 11) (.tmp 12)), o0 14 (.pick (.tmp 10) (.tmp 13) (.cst (.bool false))), m0 6 14]
def Q47b : AC := (.seq (.ops Q47r0) (.seq (.ops Q47r1) (.keep [] [(6, false)] [] [] [] .ret)))
def Q47 : Fd := ⟨3, [.tmp 6], [], Q47b⟩
theorem Q47_ag : agreeF Tryz.prog Tryz.f119 Q47 = true := by kernel_rfl
theorem chart_in_int_ok {n1 : Int} {low2 : Int} {high3 : Int} {r : Bool} (h : chart_in_int n1 low2 high3 = some r) : Contract Tryz.prog 119 [Vi n1, Vi low2, Vi high3] [] ⟨Vb r, [], []⟩ := by
 refine contract_fin hm Tryz.func119 Q47_ag (by kernel_rfl) ?_
 unfold chart_in_int at h
 refine W.seqOps Aw ?_
 obtain ⟨c4, hc4, h⟩ := bindS h
 refine W.seqOps (Bw 3 (RunR.dyn (Nw (decide (n1 ≥ low2)) c4 hc4) (RunR.puts 4 [(14, Vb (c4 && (decide (n1 ≤ high3)))), (13, (Bf c4 (Vb (decide (n1 ≤ high3))))), (12, (Bf c4 (Vi high3))), (11, (Bf c4 (Vi n1)))] (by cases c4 <;> kernel_rfl) Aw))) ?_
 refine W.keep rfl ?_
 cases h
 exact W.ret Fw
def Q29r0 : List GOp := [b0 2 false]
def Q29r1 : List GOp := [m0 3 0, o0 4 (.bin false .lss (.tmp 3) (.cst (.int .i32 32))), m0 5 4, g0 6 5 false (.mov (.tmp 0)), g0 7 5 false (.bin false .gtr (.tmp 6) (.cst (.int .i32 126))), o0 8 (.pick (.tmp 5) (.cst (.bool true)) (.tmp 7)), m0 2 8]
def Q29b : AC := (.seq (.ops Q29r0) (.seq (.ops Q29r1) (.keep [] [(2, false)] [] [] [] .ret)))
def Q29 : Fd := ⟨1, [.tmp 2], [], Q29b⟩
theorem Q29_ag : agreeF Tryz.prog Tryz.f118 Q29 = true := by kernel_rfl
theorem chart_isCustomer_1_ok {r1 : Int} {r : Bool} (h : chart_isCustomer_1 r1 = some r) : Contract Tryz.prog 118 [.pv (.int .i32 r1)] [] ⟨Vb r, [], []⟩ := by
 refine contract_fin hm Tryz.func118 Q29_ag (by kernel_rfl) ?_
 unfold chart_isCustomer_1 at h
 refine W.seqOps Aw ?_
 obtain ⟨c2, hc2, h⟩ := bindS h
 refine W.seqOps (Bw 2 (RunR.dyn (Nw (decide (r1 < 32)) c2 hc2) (RunR.puts 3 [(8, Vb (c2 || (decide (r1 > 126)))), (7, (Bf (!c2) (Vb (decide (r1 > 126))))), (6, (Bf (!c2) (.pv (.int .i32 r1))))] (by cases c2 <;> kernel_rfl) Aw))) ?_
 refine W.keep rfl ?_
 cases h
 exact W.ret Fw
def Q37r0 : List GOp := [o0 1 (.box (.tmp 0)), b0 2 false]
def Q37r1 : List GOp := [o0 3 (.mov (.cst (.fn 118)))]
def Q37r2 : List GOp := [f0 4 0 1, l0 5 1 4, o0 6 (.call 0 0 (.cst (.fn 119)) [(.tmp 5), (.cst (.int .i64 1)), (.cst (.int .i64 999))] [] []), m0 7 6, g0 8 7 true (.fld 1 (.tmp 1)), g0 9 7 true (.load false 1 (.tmp 8)), g0 10 7 true (.len true (.tmp 9)), g0 11 7 true (.call 0 0 (.cst (.fn 119)) [(.tmp 10), (.cst (.int .i64 1)), (.cst (.int .i64 32))] [] []), o0 12 (.pick (.tmp 7) (.tmp 11) (.cst (.bool false))), m0 13 12, g0 14 13 true (.fld 1 (.tmp 1)), g0 15 13 true (.load false 1 (.tmp 14)), g0 16 13 true (.mov (.tmp 3)), g0 17 13 true (.call 0 0 (.cst (.fn 120)) [(.tmp 15), (.tmp 16)] [] []), g0 18 13 true (.un .not (.tmp 17)), o0 19 (.pick (.tmp 13) (.tmp 18) (.cst (.bool false))), m0 20 19, g0 21 20 true (.fld 2 (.tmp 1)), g0 22 20 true (.load false 1 (.tmp 21)), g0 23 20 true (.call 0 0 (.cst (.fn 119)) [(.tmp 22), (.cst (.int .i64 0)), (.cst (.int .i64 3))] [] []), o0 24 (.pick (.tmp 20) (.tmp 23) (.cst (.bool false))), m0 2 24]
def Q37b : AC := (.seq (.ops Q37r0) (.seq (.ops Q37r1) (.seq (.ops Q37r2) (.keep [] [(2, false)] [] [.loc 1 0] [] .ret))))
def Q37 : Fd := ⟨1, [.tmp 2], [], Q37b⟩
theorem Q37_ag : agreeF Tryz.prog Tryz.f78 Q37 = true := by kernel_rfl
theorem chart_isCustomer_ok {x1 : T_api_Customer} {r : Bool} (h : chart_isCustomer x1 = some r) : Contract Tryz.prog 78 [.pv (T_api_Customer.pv x1)] [] ⟨Vb r, [], []⟩ := by
 refine contract_fin hm Tryz.func78 Q37_ag (by kernel_rfl) ?_
 unfold chart_isCustomer at h
 refine W.seqOps Aw ?_
 refine W.seqOps Aw ?_
 obtain ⟨x2, hx2, h⟩ := bindS h
 obtain ⟨x3, hx3, h⟩ := bindS h
 obtain ⟨c4, hc4, h⟩ := bindS h
 obtain ⟨x5, hx5, h⟩ := bindS h
 obtain ⟨c6, hc6, h⟩ := bindS h
 obtain ⟨x7, hx7, h⟩ := bindS h
 refine W.seqOps (Bw 2 (RunR.cons (Tw (chart_in_int_ok hx2) tab_nil) (Kw 119 [] (Vb x2) Hw) (Bw 1 (RunR.puts 3 [(10, (Bf x2 (Vi (x1.f_Name.length : Int)))), (9, (Bf x2 (.pv (.str x1.f_Name)))), (8, (Bf x2 (.ptr (.loc 1 0) 1)))] (by cases x2 <;> kernel_rfl) (RunR.cons (tab_cons (on := x2) (fun hg => chart_in_int_ok (gdO_at hg hx3)) tab_nil) (Step.gdG x2 (by kernel_rfl) (by
    cases x2
    ·exact .inl ⟨by kernel_rfl, by kernel_rfl⟩
    ·exact .inr ⟨by kernel_rfl, by kernel_rfl, Kw 119 [] (Vb x3) Hw⟩)) (RunR.puts 1 [(12, Vb (x2 && x3))] (by cases x2 <;> kernel_rfl) (RunR.dyn (Nw (x2 && x3) c4 hc4) (RunR.puts 3 [(16, (Bf c4 (.pv (.fn 118)))), (15, (Bf c4 (.pv (.str x1.f_Name)))), (14, (Bf c4 (.ptr (.loc 1 0) 1)))] (by cases c4 <;> kernel_rfl) (RunR.cons (tab_cons (on := c4) (fun hg => strings_ContainsFunc120_ok (fun x r h => chart_isCustomer_1_ok h) (gdO_at hg hx5)) tab_nil) (Step.gdG c4 (by kernel_rfl) (by
    cases c4
    ·exact .inl ⟨by kernel_rfl, by kernel_rfl⟩
    ·exact .inr ⟨by kernel_rfl, by kernel_rfl, Kw 120 [] (Vb x5) Hw⟩)) (RunR.puts 2 [(19, Vb (c4 && (!x5))), (18, (Bf c4 (Vb (!x5))))] (by cases c4 <;> kernel_rfl) (RunR.dyn (Nw (c4 && (!x5)) c6 hc6) (RunR.puts 2 [(22, (Bf c6 (Vi x1.f_Kind))), (21, (Bf c6 (.ptr (.loc 1 0) 2)))] (by cases c6 <;> kernel_rfl) (RunR.cons (tab_cons (on := c6) (fun hg => chart_in_int_ok (gdO_at hg hx7)) tab_nil) (Step.gdG c6 (by kernel_rfl) (by
    cases c6
    ·exact .inl ⟨by kernel_rfl, by kernel_rfl⟩
    ·exact .inr ⟨by kernel_rfl, by kernel_rfl, Kw 119 [] (Vb x7) Hw⟩)) (RunR.puts 1 [(24, Vb (c6 && x7))] (by cases c6 <;> kernel_rfl) Aw)))))))))))))) ?_
 refine W.keep rfl ?_
 cases h
 exact W.ret Fw
def Q42r0 : List GOp := [o0 1 (.box (.tmp 0)), b0 2 false]
def Q42r1 : List GOp := [t0 3 3 1, o0 4 (.call 0 0 (.cst (.fn 78)) [(.tmp 3)] [] []), o0 5 (.un .not (.tmp 4)), m0 2 5]
def Q42b : AC := (.seq (.ops Q42r0) (.seq (.ops Q42r1) (.keep [] [(2, false)] [] [.loc 1 0] [] .ret)))
def Q42 : Fd := ⟨1, [.tmp 2], [], Q42b⟩
theorem Q42_ag : agreeF Tryz.prog Tryz.f77 Q42 = true := by kernel_rfl
theorem chart_Right_1_ok {x1 : T_api_Customer} {r : Bool} (h : chart_Right_1 x1 = some r) : Contract Tryz.prog 77 [.pv (T_api_Customer.pv x1)] [] ⟨Vb r, [], []⟩ := by
 refine contract_fin hm Tryz.func77 Q42_ag (by kernel_rfl) ?_
 unfold chart_Right_1 at h
 refine W.seqOps Aw ?_
 obtain ⟨x2, hx2, h⟩ := bindS h
 refine W.seqOps (Bw 1 (RunR.cons (Tw (chart_isCustomer_ok hx2) tab_nil) (Kw 78 [] (Vb x2) Hw) Aw)) ?_
 refine W.keep rfl ?_
 cases h
 exact W.ret Fw
def Q4r0 : List GOp := [k0 4 0]
def Q4r1 : List GOp := [m0 6 0, e0 7 6, k0 8 0]
def Q4r2 : List GOp := [p0 9 .lss 8 7]
def Q4r3 : List GOp := [m0 10 8, m0 5 10]
def Q4r4 : List GOp := [m0 11 1, m0 12 0, m0 13 5, i0 14 3 12 13, t0 15 3 14, o0 16 (.call 0 0 (.tmp 11) [(.tmp 15)] [] [])]
def Q4r5 : List GOp := [m0 17 5, m0 4 17]
def Q4r6 : List GOp := [q0 18 .add 8 1, m0 8 18]
def Q4l7 : AC := (.keep [] [(0, false), (1, false), (7, false), (8, false)] [] [] [] (.seq (.ops Q4r2) (.seq (.cond (.tmp 9) .skip (.exit 0)) (.seq (.pass 1 (.seq (.ops Q4r3) (.seq (.ops Q4r4) (.cond (.tmp 16) (.seq (.ops Q4r5) (.keep [] [(4, false)] [] [] [] .ret)) .skip)))) (.ops Q4r6)))))
def Q4r8 : List GOp := [k0 4 (-1)]
def Q4b : AC := (.seq (.ops Q4r0) (.seq (.seq (.ops Q4r1) (.block 0 (.loop [0, 1, 7, 8] [] Q4l7))) (.seq (.keep [] [] [] [] [] (.ops Q4r8)) (.keep [] [(4, false)] [] [] [] .ret))))
def Q4 : Fd := ⟨2, [.tmp 4], [], Q4b⟩
theorem Q4_ag : agreeF Tryz.prog Tryz.f117 Q4 = true := by kernel_rfl
theorem slices_IndexFunc_Customer_Customer_ok {s1 : List T_api_Customer} {r : Int} (h : slices_IndexFunc_Customer_Customer s1 = some r) : Contract Tryz.prog 117 [Vl T_api_Customer.pv s1, .pv (.fn 77)] [] ⟨Vi r, [], []⟩ := by
 refine contract_fin hm Tryz.func117 Q4_ag (by kernel_rfl) ?_
 unfold slices_IndexFunc_Customer_Customer at h
 refine W.seqOps Aw ?_
 refine W.assoc ?_
 refine W.seqOps (Bw 1 (RunR.dyn (Lw T_api_Customer.pv s1) Aw)) ?_
 obtain ⟨j2, hj2, h⟩ := bindS h
 refine W.joinOut (j := j2) (o := r) (fun p σ => σ.tidy [] [] [] [] [] = ⟨[], []⟩) ?_ (fun p σj2 hp hsj2 => ?_) (fun p hp => ?_)
 ·refine W.blockLoopO (fun q σ => ((σ.forget [0, 1, 7, 8]).killAll []).tidy [] [(0, false), (1, false), (7, false), (8, false)] [] [] [] = ⟨[(0, Vl T_api_Customer.pv s1), (1, .pv (.fn 77)), (7, Vi (s1.length : Int)), (8, Vi q)], []⟩) hj2 ?_ ?_
  ·show _ = _
   kernel_rfl
  ·intro x3 σj2 oj2 hJj2 h
   refine W.keep hJj2 ?_
   refine W.seqOps Aw ?_
   refine W.seqCond (t := decide (x3 < (s1.length : Int))) (by kernel_rfl) h (fun hc h' => ?_) (fun hc h' => ?_)
   ·replace h := h'
    refine W.seqSkip ?_
    refine W.seqPass ?_
    refine W.assoc ?_
    refine W.seqOps Aw ?_
    refine W.assoc ?_
    obtain ⟨x4, hx4, h⟩ := bindS h
    obtain ⟨x5, hx5, h⟩ := bindS h
    refine W.seqOps (Bw 3 (RunR.dyn (Iw T_api_Customer.pv s1 x3 x4 hx4) (Bw 1 (RunR.cons (Tw (chart_Right_1_ok hx5) tab_nil) (Kw 77 [] (Vb x5) Hw) ((.nil _)))))) ?_
    refine W.seqCond (t := x5) (by kernel_rfl) h (fun hc h' => ?_) (fun hc h' => ?_)
    ·replace h := h'
     refine W.assoc ?_
     refine W.seqOps Aw ?_
     refine W.seqKeep rfl ?_
     cases h
     exact W.seqRet ((outw_out ret_ne (bout_o ret_ne ret_ne' (fun e => by subst e; exact Fw))))
    ·replace h := h'
     refine W.seqSkip ?_
     refine W.ops Aw ?_
     cases h
     exact Ow
   ·replace h := h'
    cases h
    exact W.seqExit ((outw_out exit_ne (bout_x (by (show _ = _); kernel_rfl))))
 ·subst hp
  obtain ⟨⟩ := p
  refine W.seqKeep hsj2 ?_
  refine W.seqOps Aw ?_
  refine W.keep rfl ?_
  cases h
  exact W.ret Fw
 ·subst hp
  exact Option.some.inj h
def Q2r0 : List GOp := [b0 4 false]
def Q2r1 : List GOp := [m0 5 0, m0 6 1, o0 7 (.call 0 0 (.cst (.fn 117)) [(.tmp 5), (.tmp 6)] [] []), q0 8 .geq 7 0, m0 4 8]
def Q2b : AC := (.seq (.ops Q2r0) (.seq (.ops Q2r1) (.keep [] [(4, false)] [] [] [] .ret)))
def Q2 : Fd := ⟨2, [.tmp 4], [], Q2b⟩
theorem Q2_ag : agreeF Tryz.prog Tryz.f76 Q2 = true := by kernel_rfl
theorem slices_ContainsFunc_Customer_Customer_ok {s1 : List T_api_Customer} {r : Bool} (h : slices_ContainsFunc_Customer_Customer s1 = some r) : Contract Tryz.prog 76 [Vl T_api_Customer.pv s1, .pv (.fn 77)] [] ⟨Vb r, [], []⟩ := by
 refine contract_fin hm Tryz.func76 Q2_ag (by kernel_rfl) ?_
 unfold slices_ContainsFunc_Customer_Customer at h
 refine W.seqOps Aw ?_
 obtain ⟨x2, hx2, h⟩ := bindS h
 refine W.seqOps (Bw 2 (RunR.cons (Tw (slices_IndexFunc_Customer_Customer_ok hx2) tab_nil) (Kw 117 [] (Vi x2) Hw) Aw)) ?_
 refine W.keep rfl ?_
 cases h
 exact W.ret Fw
def Q43r0 : List GOp := [b0 2 false]
def Q43r1 : List GOp := [m0 3 0, m0 4 0, p0 5 .neq 3 4, m0 2 5]
def Q43b : AC := (.seq (.ops Q43r0) (.seq (.ops Q43r1) (.keep [] [(2, false)] [] [] [] .ret)))
def Q43 : Fd := ⟨1, [.tmp 2], [], Q43b⟩
theorem Q43_ag : agreeF Tryz.prog Tryz.f134 Q43 = true := by kernel_rfl
theorem cmp_isNaN_int_ok {x1 : Int} {r : Bool} (h : cmp_isNaN_int x1 = some r) : Contract Tryz.prog 134 [Vi x1] [] ⟨Vb r, [], []⟩ := by
 refine contract_fin hm Tryz.func134 Q43_ag (by kernel_rfl) ?_
 unfold cmp_isNaN_int at h
 refine W.seqOps Aw ?_
 refine W.seqOps Aw ?_
 refine W.keep rfl ?_
 cases h
 exact W.ret Fw
def Q39r0 : List GOp := [k0 4 0]
def Q39r1 : List GOp := [m0 7 0, o0 8 (.call 0 0 (.cst (.fn 134)) [(.tmp 7)] [] []), m0 5 8]
def Q39r2 : List GOp := [m0 9 1, o0 10 (.call 0 0 (.cst (.fn 134)) [(.tmp 9)] [] []), m0 6 10]
def Q39r3 : List GOp := [m0 11 5]
def Q39r4 : List GOp := [m0 12 6]
def Q39r5 : List GOp := [k0 4 0]
def Q39r6 : List GOp := [k0 4 (-1)]
def Q39r7 : List GOp := [m0 13 6]
def Q39r8 : List GOp := [k0 4 1]
def Q39r9 : List GOp := [m0 14 0, m0 15 1, p0 16 .lss 14 15]
def Q39r10 : List GOp := [k0 4 (-1)]
def Q39r11 : List GOp := [m0 17 0, m0 18 1, p0 19 .gtr 17 18]
def Q39r12 : List GOp := [k0 4 1]
def Q39r13 : List GOp := [k0 4 0]
def Q39b : AC := (.seq (.ops Q39r0) (.seq (.ops Q39r1) (.seq (.ops Q39r2) (.seq (.seq (.ops Q39r3) (.cond (.tmp 11) (.seq (.seq (.ops Q39r4) (.cond (.tmp 12) (.seq (.ops Q39r5) (.keep [] [(4, false)] [] [] [] .ret)) .skip)) (.seq (.ops Q39r6) (.keep [] [(4, false)] [] [] [] .ret))) .skip)) (.seq (.seq (.ops Q39r7) (.cond (.tmp 13) (.seq (.ops Q39r8) (.keep [] [(4, false)] [] [] [] .ret)) .skip)) (.seq (.seq (.ops Q39r9) (.cond (.tmp 16) (.seq (.ops Q39r10) (.keep [] [(4, false)] [] [] [] .ret)) .skip)) (.seq (.seq (.ops Q39r11) (.cond (.tmp 19) (.seq (.ops Q39r12) (.keep [] [(4, false)] [] [] [] .ret)) .skip)) (.seq (.ops Q39r13) (.keep [] [(4, false)] [] [] [] .ret)))))))))
def Q39 : Fd := ⟨2, [.tmp 4], [], Q39b⟩
theorem Q39_ag : agreeF Tryz.prog Tryz.f104 Q39 = true := by kernel_rfl
theorem cmp_Compare_int_ok {x1 : Int} {y2 : Int} {r : Int} (h : cmp_Compare_int x1 y2 = some r) : Contract Tryz.prog 104 [Vi x1, Vi y2] [] ⟨Vi r, [], []⟩ := by
 refine contract_fin hm Tryz.func104 Q39_ag (by kernel_rfl) ?_
 unfold cmp_Compare_int at h
 refine W.seqOps Aw ?_
 obtain ⟨x3, hx3, h⟩ := bindS h
 refine W.seqOps (Bw 1 (RunR.cons (Tw (cmp_isNaN_int_ok hx3) tab_nil) (Kw 134 [] (Vb x3) Hw) Aw)) ?_
 obtain ⟨x4, hx4, h⟩ := bindS h
 refine W.seqOps (Bw 1 (RunR.cons (Tw (cmp_isNaN_int_ok hx4) tab_nil) (Kw 134 [] (Vb x4) Hw) Aw)) ?_
 refine W.assoc ?_
 refine W.seqOps Aw ?_
 refine W.seqCond (t := x3) (by kernel_rfl) h (fun hc h' => ?_) (fun hc h' => ?_)
 ·replace h := h'
  refine W.assoc ?_
  refine W.assoc ?_
  refine W.seqOps Aw ?_
  refine W.seqCond (t := x4) (by kernel_rfl) h (fun hc h' => ?_) (fun hc h' => ?_)
  ·replace h := h'
   refine W.assoc ?_
   refine W.seqOps Aw ?_
   refine W.seqKeep rfl ?_
   cases h
   exact W.seqRet Fw
  ·replace h := h'
   refine W.seqSkip ?_
   refine W.assoc ?_
   refine W.seqOps Aw ?_
   refine W.seqKeep rfl ?_
   cases h
   exact W.seqRet Fw
 ·replace h := h'
  refine W.seqSkip ?_
  refine W.assoc ?_
  refine W.seqOps Aw ?_
  refine W.seqCond (t := x4) (by kernel_rfl) h (fun hc h' => ?_) (fun hc h' => ?_)
  ·replace h := h'
   refine W.assoc ?_
   refine W.seqOps Aw ?_
   refine W.seqKeep rfl ?_
   cases h
   exact W.seqRet Fw
  ·replace h := h'
   refine W.seqSkip ?_
   refine W.assoc ?_
   refine W.seqOps Aw ?_
   refine W.seqCond (t := decide (x1 < y2)) (by kernel_rfl) h (fun hc h' => ?_) (fun hc h' => ?_)
   ·replace h := h'
    refine W.assoc ?_
    refine W.seqOps Aw ?_
    refine W.seqKeep rfl ?_
    cases h
    exact W.seqRet Fw
   ·replace h := h'
    refine W.seqSkip ?_
    refine W.assoc ?_
    refine W.seqOps Aw ?_
    refine W.seqCond (t := decide (x1 > y2)) (by kernel_rfl) h (fun hc h' => ?_) (fun hc h' => ?_)
    ·replace h := h'
     refine W.assoc ?_
     refine W.seqOps Aw ?_
     refine W.seqKeep rfl ?_
     cases h
     exact W.seqRet Fw
    ·replace h := h'
     refine W.seqSkip ?_
     refine W.seqOps Aw ?_
     refine W.keep rfl ?_
     cases h
     exact W.ret Fw
def Q18r0 : List GOp := [o0 3 (.box (.tmp 0)), k0 5 0]
def Q18r1 : List GOp := [l0 6 1 2, t0 7 3 3, o0 8 (.call 0 0 (.tmp 6) [(.tmp 7)] [] []), m0 9 1, o0 10 (.call 0 0 (.cst (.fn 104)) [(.tmp 8), (.tmp 9)] [] []), m0 5 10]
def Q18b : AC := (.seq (.ops Q18r0) (.seq (.ops Q18r1) (.keep [] [(5, false)] [(.ext 0, false)] [.loc 3 0] [] .ret)))
def Q18 : Fd := ⟨3, [.tmp 5], [], Q18b⟩
theorem Q18_ag : agreeF Tryz.prog Tryz.f123 Q18 = true := by kernel_rfl
theorem chart_place_Customer_int_1_ok {x1 : T_api_Customer} {n2 : Int} {r : Int} (h : chart_place_Customer_int_1 x1 n2 = some r) : Contract Tryz.prog 123 [.pv (T_api_Customer.pv x1), Vi n2, .ptr (.ext 0) 0] [.box [.pv (.fn 73)]] ⟨Vi r, [], [(some (.box [.pv (.fn 73)]))]⟩ := by
 refine contract_fin hm Tryz.func123 Q18_ag (by kernel_rfl) ?_
 unfold chart_place_Customer_int_1 at h
 refine W.seqOps Aw ?_
 obtain ⟨x3, hx3, h⟩ := bindS h
 obtain ⟨x4, hx4, h⟩ := bindS h
 refine W.seqOps (Bw 2 (RunR.cons (Tw (chart_idOf_ok hx3) tab_nil) (Kw 73 [] (Vi x3) Hw) (Bw 1 (RunR.cons (Tw (cmp_Compare_int_ok hx4) tab_nil) (Kw 104 [] (Vi x4) Hw) Aw)))) ?_
 refine W.keep rfl ?_
 cases h
 exact W.ret Fw
def Q0r0 : List GOp := [k0 6 0, b0 7 false]
def Q0r1 : List GOp := [m0 12 0, e0 13 12, m0 8 13]
def Q0r2 : List GOp := [m0 14 8, k0 9 0, m0 10 14]
def Q0r3 : List GOp := [m0 15 9, m0 16 10, p0 17 .lss 15 16]
def Q0r4 : List GOp := [m0 18 9, m0 19 10, p0 20 .add 18 19, o0 21 (.conv .u64 (.tmp 20)), o0 22 (.bin false .shr (.tmp 21) (.cst (.int .u64 1))), o0 23 (.conv .i64 (.tmp 22)), m0 11 23]
def Q0r5 : List GOp := [m0 24 2, m0 25 0, m0 26 11, i0 27 3 25 26, t0 28 3 27, m0 29 1, o0 30 (.call 0 2 (.tmp 24) [(.tmp 28), (.tmp 29)] [] [.ext 0]), q0 31 .lss 30 0]
def Q0r6 : List GOp := [m0 32 11, q0 33 .add 32 1, m0 9 33]
def Q0r7 : List GOp := [m0 34 11, m0 10 34]
def Q0l8 : AC := (.keep [] [(0, false), (1, false), (2, false), (8, false), (9, false), (10, false)] [(.ext 0, false)] [] [] (.seq (.seq (.ops Q0r3) (.cond (.tmp 17) .skip (.exit 0))) (.pass 1 (.seq (.ops Q0r4) (.seq (.ops Q0r5) (.cond (.tmp 31) (.ops Q0r6) (.ops Q0r7)))))))
def Q0r9 : List GOp := [m0 35 9, m0 36 9, m0 37 8, p0 38 .lss 36 37, m0 39 38, g0 40 39 true (.mov (.tmp 2)), g0 41 39 true (.mov (.tmp 0)), g0 42 39 true (.mov (.tmp 9)), g0 43 39 true (.idx 3 (.tmp 41) (.tmp 42)), g0 44 39 true (.load true 3 (.tmp 43)), g0 45 39 true (.mov (.tmp 1)), g0 46 39 true (.call 0 2 (.tmp 40) [(.tmp 44), (.tmp 45)] [] [.ext 0]), g0 47 39 true (.bin false .eql (.tmp 46) (.cst (.int .i64 0))), o0 48 (.pick (.tmp 39) (.tmp 47) (.cst (.bool false))), m0 6 35, m0 7 48]
def Q0b : AC := (.seq (.ops Q0r0) (.seq (.ops Q0r1) (.seq (.ops Q0r2) (.seq (.block 0 (.loop [0, 1, 2, 8, 9, 10] [] Q0l8)) (.seq (.keep [] [(0, false), (1, false), (2, false), (8, false), (9, false)] [(.ext 0, false)] [] [] (.ops Q0r9)) (.keep [] [(6, false), (7, false)] [(.ext 0, false)] [] [] .ret))))))
def Q0 : Fd := ⟨3, [.tmp 6, .tmp 7], [], Q0b⟩
theorem Q0_ag : agreeF Tryz.prog Tryz.f122 Q0 = true := by kernel_rfl
theorem slices_BinarySearchFunc_Customer_Customer_int_ok {x1 : List T_api_Customer} {target2 : Int} {r : Int × Bool} (h : slices_BinarySearchFunc_Customer_Customer_int x1 target2 = some r) : Contract Tryz.prog 122 [Vl T_api_Customer.pv x1, Vi target2, .fn 123 [.ptr (.ext 0) 0]] [.box [.pv (.fn 73)]] ⟨.tup [Vi r.1, Vb r.2], [], [(some (.box [.pv (.fn 73)]))]⟩ := by
 refine contract_fin hm Tryz.func122 Q0_ag (by kernel_rfl) ?_
 unfold slices_BinarySearchFunc_Customer_Customer_int at h
 refine W.seqOps Aw ?_
 refine W.seqOps (Bw 1 (RunR.dyn (Lw T_api_Customer.pv x1) Aw)) ?_
 refine W.seqOps Aw ?_
 obtain ⟨j3, hj3, h⟩ := bindS h
 refine W.join (j := j3) (fun p σ => σ.tidy [] [(0, false), (1, false), (2, false), (8, false), (9, false)] [(.ext 0, false)] [] [] = ⟨[(0, Vl T_api_Customer.pv x1), (1, Vi target2), (2, .fn 123 [.ptr (.ext 0) 0]), (8, Vi (x1.length : Int)), (9, Vi p)], [(.ext 0, .box [.pv (.fn 73)])]⟩) ?_ (fun σj3 hsj3 => ?_)
 ·refine W.blockLoop (fun q σ => ((σ.forget [0, 1, 2, 8, 9, 10]).killAll []).tidy [] [(0, false), (1, false), (2, false), (8, false), (9, false), (10, false)] [(.ext 0, false)] [] [] = ⟨[(0, Vl T_api_Customer.pv x1), (1, Vi target2), (2, .fn 123 [.ptr (.ext 0) 0]), (8, Vi (x1.length : Int)), (9, Vi q.1), (10, Vi q.2)], [(.ext 0, .box [.pv (.fn 73)])]⟩) hj3 ?_ ?_
  ·show _ = _
   kernel_rfl
  ·intro q σj3 oj3 hJj3 h
   obtain ⟨i4, j5⟩ := q
   refine W.keep hJj3 ?_
   refine W.assoc ?_
   refine W.seqOps Aw ?_
   refine W.seqCond (t := decide (i4 < j5)) (by kernel_rfl) h (fun hc h' => ?_) (fun hc h' => ?_)
   ·replace h := h'
    refine W.seqSkip ?_
    refine W.pass ?_
    refine W.seqOps Aw ?_
    obtain ⟨x6, hx6, h⟩ := bindS h
    obtain ⟨x7, hx7, h⟩ := bindS h
    refine W.seqOps (Bw 3 (RunR.dyn (Iw T_api_Customer.pv x1 (IntKind.wrap .i64 (Int.fdiv (IntKind.wrap .u64 (IntKind.wrap .i64 (i4 + j5))) 2)) x6 hx6) (Bw 2 (RunR.cons (Tw (chart_place_Customer_int_1_ok hx7) tab_nil) (Step.callG (g := 123) (caps := [.ptr (.ext 0) 0]) (v := Vi x7) (ins := []) rfl (by kernel_rfl) (by kernel_rfl) (by kernel_rfl) Hw (by kernel_rfl) (by kernel_rfl)) Aw)))) ?_
    refine W.condI (t := decide (x7 < 0)) (by kernel_rfl) h (fun hc h' => ?_) (fun hc h' => ?_)
    ·replace h := h'
     refine W.ops Aw ?_
     cases h
     exact Ow
    ·replace h := h'
     refine W.ops Aw ?_
     cases h
     exact Ow
   ·replace h := h'
    cases h
    exact W.seqExit ((outw_out exit_ne (bnorm_x (by (show _ = _); kernel_rfl))))
 ·refine W.seqKeep hsj3 ?_
  obtain ⟨c9, hc9, h⟩ := bindS h
  obtain ⟨x10, hx10, h⟩ := bindS h
  obtain ⟨x11, hx11, h⟩ := bindS h
  refine W.seqOps (Bw 4 (RunR.dyn (Nw (decide (j3 < (x1.length : Int))) c9 hc9) (RunR.puts 3 [(42, (Bf c9 (Vi j3))), (41, (Bf c9 (Vl T_api_Customer.pv x1))), (40, (Bf c9 (.fn 123 [.ptr (.ext 0) 0])))] (by cases c9 <;> kernel_rfl) (RunR.dyn (Step.gdG c9 (by kernel_rfl) (by
     cases c9
     ·exact .inl ⟨by kernel_rfl, by kernel_rfl⟩
     ·exact .inr ⟨by kernel_rfl, by kernel_rfl, Iw T_api_Customer.pv x1 j3 x10 hx10⟩)) (RunR.puts 2 [(45, (Bf c9 (Vi target2))), (44, (Bf c9 (.pv (T_api_Customer.pv x10))))] (by cases c9 <;> kernel_rfl) (RunR.cons (tab_cons (on := c9) (fun hg => chart_place_Customer_int_1_ok (gdO_at hg hx11)) tab_nil) (Step.gdB c9 (by kernel_rfl) (by
     cases c9
     ·exact .inl ⟨by kernel_rfl, by kernel_rfl⟩
     ·exact .inr ⟨by kernel_rfl, by kernel_rfl, Step.callBs (g := 123) (caps := [.ptr (.ext 0) 0]) (v := Vi x11) rfl (by kernel_rfl) (by kernel_rfl) (by kernel_rfl) Hw (by kernel_rfl) (by kernel_rfl)⟩)) (RunR.puts 2 [(48, Vb (c9 && (x11 == 0))), (47, (Bf c9 (Vb (x11 == 0))))] (by cases c9 <;> kernel_rfl) Aw))))))) ?_
  refine W.keep rfl ?_
  cases h
  exact W.ret Fw
def Q26r0 : List GOp := [o0 5 (.box (.tmp 2)), k0 6 0, b0 7 false]
def Q26r1 : List GOp := [m0 8 0, m0 9 1, o0 10 (.mkfn 123 [(.tmp 5)]), o0 11 (.call 0 2 (.cst (.fn 122)) [(.tmp 8), (.tmp 9), (.tmp 10)] [] [.loc 5 0]), o0 12 (.ext 0 (.tmp 11)), o0 13 (.ext 1 (.tmp 11)), m0 6 12, m0 7 13]
def Q26b : AC := (.seq (.ops Q26r0) (.seq (.ops Q26r1) (.keep [] [(6, false), (7, false)] [] [.loc 5 0] [] .ret)))
def Q26 : Fd := ⟨3, [.tmp 6, .tmp 7], [], Q26b⟩
theorem Q26_ag : agreeF Tryz.prog Tryz.f81 Q26 = true := by kernel_rfl
theorem chart_place_Customer_int_ok {l1 : List T_api_Customer} {n2 : Int} {r : Int × Bool} (h : chart_place_Customer_int l1 n2 = some r) : Contract Tryz.prog 81 [Vl T_api_Customer.pv l1, Vi n2, .pv (.fn 73)] [] ⟨.tup [Vi r.1, Vb r.2], [], []⟩ := by
 refine contract_fin hm Tryz.func81 Q26_ag (by kernel_rfl) ?_
 unfold chart_place_Customer_int at h
 refine W.seqOps Aw ?_
 obtain ⟨x3, hx3, h⟩ := bindS h
 refine W.seqOps (Bw 3 (RunR.cons (Tw (slices_BinarySearchFunc_Customer_Customer_int_ok hx3) tab_nil) (Step.callG (g := 122) (caps := []) (v := .tup [Vi x3.1, Vb x3.2]) (ins := []) rfl (by kernel_rfl) (by kernel_rfl) (by kernel_rfl) Hw (by kernel_rfl) (by kernel_rfl)) Aw)) ?_
 refine W.keep rfl ?_
 cases h
 exact W.ret Fw
def Q38r0 : List GOp := [b0 6 false]
def Q38r1 : List GOp := [m0 7 0, m0 8 1, p0 9 .geq 7 8, m0 10 9, g0 11 10 true (.mov (.tmp 0)), g0 12 10 true (.mov (.tmp 2)), g0 13 10 true (.bin false .leq (.tmp 11) (.tmp 12)), o0 14 (.pick (.tmp 10) (.tmp 13) (.cst (.bool false))), m0 6 14]
def Q38b : AC := (.seq (.ops Q38r0) (.seq (.ops Q38r1) (.keep [] [(6, false)] [] [] [] .ret)))
def Q38 : Fd := ⟨3, [.tmp 6], [], Q38b⟩
theorem Q38_ag : agreeF Tryz.prog Tryz.f124 Q38 = true := by kernel_rfl
theorem chart_in_Account_ok {n1 : Int} {low2 : Int} {high3 : Int} {r : Bool} (h : chart_in_Account n1 low2 high3 = some r) : Contract Tryz.prog 124 [Vi n1, Vi low2, Vi high3] [] ⟨Vb r, [], []⟩ := by
 refine contract_fin hm Tryz.func124 Q38_ag (by kernel_rfl) ?_
 unfold chart_in_Account at h
 refine W.seqOps Aw ?_
 obtain ⟨c4, hc4, h⟩ := bindS h
 refine W.seqOps (Bw 3 (RunR.dyn (Nw (decide (n1 ≥ low2)) c4 hc4) (RunR.puts 4 [(14, Vb (c4 && (decide (n1 ≤ high3)))), (13, (Bf c4 (Vb (decide (n1 ≤ high3))))), (12, (Bf c4 (Vi high3))), (11, (Bf c4 (Vi n1)))] (by cases c4 <;> kernel_rfl) Aw))) ?_
 refine W.keep rfl ?_
 cases h
 exact W.ret Fw
def Q32r0 : List GOp := [b0 6 false]
def Q32r1 : List GOp := [m0 7 0, m0 8 1, p0 9 .geq 7 8, m0 10 9, g0 11 10 true (.mov (.tmp 0)), g0 12 10 true (.mov (.tmp 2)), g0 13 10 true (.bin false .leq (.tmp 11) (.tmp 12)), o0 14 (.pick (.tmp 10) (.tmp 13) (.cst (.bool false))), m0 6 14]
def Q32b : AC := (.seq (.ops Q32r0) (.seq (.ops Q32r1) (.keep [] [(6, false)] [] [] [] .ret)))
def Q32 : Fd := ⟨3, [.tmp 6], [], Q32b⟩
theorem Q32_ag : agreeF Tryz.prog Tryz.f125 Q32 = true := by kernel_rfl
theorem chart_in_Currency_ok {n1 : Int} {low2 : Int} {high3 : Int} {r : Bool} (h : chart_in_Currency n1 low2 high3 = some r) : Contract Tryz.prog 125 [Vi n1, Vi low2, Vi high3] [] ⟨Vb r, [], []⟩ := by
 refine contract_fin hm Tryz.func125 Q32_ag (by kernel_rfl) ?_
 unfold chart_in_Currency at h
 refine W.seqOps Aw ?_
 obtain ⟨c4, hc4, h⟩ := bindS h
 refine W.seqOps (Bw 3 (RunR.dyn (Nw (decide (n1 ≥ low2)) c4 hc4) (RunR.puts 4 [(14, Vb (c4 && (decide (n1 ≤ high3)))), (13, (Bf c4 (Vb (decide (n1 ≤ high3))))), (12, (Bf c4 (Vi high3))), (11, (Bf c4 (Vi n1)))] (by cases c4 <;> kernel_rfl) Aw))) ?_
 refine W.keep rfl ?_
 cases h
 exact W.ret Fw
def Q67r0 : List GOp := [b0 2 false]
def Q67r1 : List GOp := [m0 3 0, o0 4 (.bin false .geq (.tmp 3) (.cst (.int .i32 (-50000)))), m0 5 4, g0 6 5 true (.mov (.tmp 0)), g0 7 5 true (.bin false .leq (.tmp 6) (.cst (.int .i32 50000))), o0 8 (.pick (.tmp 5) (.tmp 7) (.cst (.bool false))), m0 2 8]
def Q67b : AC := (.seq (.ops Q67r0) (.seq (.ops Q67r1) (.keep [] [(2, false)] [] [] [] .ret)))
def Q67 : Fd := ⟨1, [.tmp 2], [], Q67b⟩
theorem Q67_ag : agreeF Tryz.prog Tryz.f107 Q67 = true := by kernel_rfl
theorem date_Right_ok {d1 : Int} {r : Bool} (h : date_Right d1 = some r) : Contract Tryz.prog 107 [.pv (.int .i32 d1)] [] ⟨Vb r, [], []⟩ := by
 refine contract_fin hm Tryz.func107 Q67_ag (by kernel_rfl) ?_
 unfold date_Right at h
 refine W.seqOps Aw ?_
 obtain ⟨c2, hc2, h⟩ := bindS h
 refine W.seqOps (Bw 2 (RunR.dyn (Nw (decide (d1 ≥ (-50000))) c2 hc2) (RunR.puts 3 [(8, Vb (c2 && (decide (d1 ≤ 50000)))), (7, (Bf c2 (Vb (decide (d1 ≤ 50000))))), (6, (Bf c2 (.pv (.int .i32 d1))))] (by cases c2 <;> kernel_rfl) Aw))) ?_
 refine W.keep rfl ?_
 cases h
 exact W.ret Fw
def Q41r0 : List GOp := [o0 1 (.box (.tmp 0)), b0 2 false]
def Q41r1 : List GOp := [f0 3 0 1, l0 4 1 3, o0 5 (.call 0 0 (.cst (.fn 124)) [(.tmp 4), (.cst (.int .i64 1)), (.cst (.int .i64 999))] [] []), o0 6 (.un .not (.tmp 5)), m0 7 6, g0 8 7 false (.fld 1 (.tmp 1)), g0 9 7 false (.load false 1 (.tmp 8)), g0 10 7 false (.call 0 0 (.cst (.fn 119)) [(.tmp 9), (.cst (.int .i64 0)), (.cst (.int .i64 3))] [] []), g0 11 7 false (.un .not (.tmp 10)), o0 12 (.pick (.tmp 7) (.cst (.bool true)) (.tmp 11)), m0 13 12, g0 14 13 false (.fld 2 (.tmp 1)), g0 15 13 false (.load false 1 (.tmp 14)), g0 16 13 false (.call 0 0 (.cst (.fn 125)) [(.tmp 15), (.cst (.int .i64 0)), (.cst (.int .i64 3))] [] []), g0 17 13 false (.un .not (.tmp 16)), o0 18 (.pick (.tmp 13) (.cst (.bool true)) (.tmp 17)), m0 19 18, g0 20 19 false (.fld 3 (.tmp 1)), g0 21 19 false (.load false 1 (.tmp 20)), g0 22 19 false (.call 0 0 (.cst (.fn 119)) [(.tmp 21), (.cst (.int .i64 0)), (.cst (.int .i64 999))] [] []), g0 23 19 false (.un .not (.tmp 22)), o0 24 (.pick (.tmp 19) (.cst (.bool true)) (.tmp 23))]
def Q41r2 : List GOp := [b0 2 false]
def Q41r3 : List GOp := [f0 25 1 1, l0 26 1 25, q0 27 .geq 26 2, m0 28 27, g0 29 28 true (.fld 3 (.tmp 1)), g0 30 28 true (.load false 1 (.tmp 29)), g0 31 28 true (.bin false .neq (.tmp 30) (.cst (.int .i64 0))), g0 32 28 true (.mov (.tmp 31)), g0 33 32 false (.fld 4 (.tmp 1)), g0 34 32 false (.load false 1 (.tmp 33)), g0 35 32 false (.bin false .neq (.tmp 34) (.cst (.int .i64 0))), g0 36 28 true (.pick (.tmp 32) (.cst (.bool true)) (.tmp 35)), o0 37 (.pick (.tmp 28) (.tmp 36) (.cst (.bool false)))]
def Q41r4 : List GOp := [b0 2 false]
def Q41r5 : List GOp := [f0 38 4 1, l0 39 1 38, o0 40 (.call 0 0 (.cst (.fn 119)) [(.tmp 39), (.cst (.int .i64 0)), (.cst (.int .i64 20))] [] []), m0 41 40, g0 42 41 true (.fld 5 (.tmp 1)), g0 43 41 true (.load false 1 (.tmp 42)), g0 44 41 true (.call 0 0 (.cst (.fn 119)) [(.tmp 43), (.cst (.int .i64 0)), (.cst (.int .i64 3))] [] []), o0 45 (.pick (.tmp 41) (.tmp 44) (.cst (.bool false))), m0 46 45, g0 47 46 true (.fld 6 (.tmp 1)), g0 48 46 true (.load false 1 (.tmp 47)), g0 49 46 true (.call 0 0 (.cst (.fn 107)) [(.tmp 48)] [] []), o0 50 (.pick (.tmp 46) (.tmp 49) (.cst (.bool false))), m0 51 50, g0 52 51 true (.fld 7 (.tmp 1)), g0 53 51 true (.load false 1 (.tmp 52)), g0 54 51 true (.call 0 0 (.cst (.fn 107)) [(.tmp 53)] [] []), o0 55 (.pick (.tmp 51) (.tmp 54) (.cst (.bool false))), m0 56 55, g0 57 56 true (.fld 6 (.tmp 1)), g0 58 56 true (.load false 1 (.tmp 57)), g0 59 56 true (.fld 7 (.tmp 1)), g0 60 56 true (.load false 1 (.tmp 59)), g0 61 56 true (.bin false .leq (.tmp 58) (.tmp 60)), o0 62 (.pick (.tmp 56) (.tmp 61) (.cst (.bool false))), m0 2 62]
def Q41b : AC := (.seq (.ops Q41r0) (.seq (.seq (.ops Q41r1) (.cond (.tmp 24) (.seq (.ops Q41r2) (.keep [] [(2, false)] [] [.loc 1 0] [] .ret)) .skip)) (.seq (.seq (.ops Q41r3) (.cond (.tmp 37) (.seq (.ops Q41r4) (.keep [] [(2, false)] [] [.loc 1 0] [] .ret)) .skip)) (.seq (.ops Q41r5) (.keep [] [(2, false)] [] [.loc 1 0] [] .ret)))))
def Q41 : Fd := ⟨1, [.tmp 2], [], Q41b⟩
theorem Q41_ag : agreeF Tryz.prog Tryz.f82 Q41 = true := by kernel_rfl
theorem chart_isRecord_ok {r1 : T_api_Record} {r : Bool} (h : chart_isRecord r1 = some r) : Contract Tryz.prog 82 [.pv (T_api_Record.pv r1)] [] ⟨Vb r, [], []⟩ := by
 refine contract_fin hm Tryz.func82 Q41_ag (by kernel_rfl) ?_
 unfold chart_isRecord at h
 refine W.seqOps Aw ?_
 refine W.assoc ?_
 obtain ⟨x2, hx2, h⟩ := bindS h
 obtain ⟨c3, hc3, h⟩ := bindS h
 obtain ⟨x4, hx4, h⟩ := bindS h
 obtain ⟨c5, hc5, h⟩ := bindS h
 obtain ⟨x6, hx6, h⟩ := bindS h
 obtain ⟨c7, hc7, h⟩ := bindS h
 obtain ⟨x8, hx8, h⟩ := bindS h
 refine W.seqOps (Bw 2 (RunR.cons (Tw (chart_in_Account_ok hx2) tab_nil) (Kw 124 [] (Vb x2) Hw) (Bw 1 (RunR.dyn (Nw (!x2) c3 hc3) (RunR.puts 2 [(9, (Bf (!c3) (Vi r1.f_Kind))), (8, (Bf (!c3) (.ptr (.loc 1 0) 1)))] (by cases c3 <;> kernel_rfl) (RunR.cons (tab_cons (on := (!c3)) (fun hg => chart_in_int_ok (gdO_at hg hx4)) tab_nil) (Step.gdG (!c3) (by kernel_rfl) (by
    cases c3
    ·exact .inr ⟨by kernel_rfl, by kernel_rfl, Kw 119 [] (Vb x4) Hw⟩
    ·exact .inl ⟨by kernel_rfl, by kernel_rfl⟩)) (RunR.puts 2 [(12, Vb (c3 || (!x4))), (11, (Bf (!c3) (Vb (!x4))))] (by cases c3 <;> kernel_rfl) (RunR.dyn (Nw (c3 || (!x4)) c5 hc5) (RunR.puts 2 [(15, (Bf (!c5) (Vi r1.f_Cur))), (14, (Bf (!c5) (.ptr (.loc 1 0) 2)))] (by cases c5 <;> kernel_rfl) (RunR.cons (tab_cons (on := (!c5)) (fun hg => chart_in_Currency_ok (gdO_at hg hx6)) tab_nil) (Step.gdG (!c5) (by kernel_rfl) (by
    cases c5
    ·exact .inr ⟨by kernel_rfl, by kernel_rfl, Kw 125 [] (Vb x6) Hw⟩
    ·exact .inl ⟨by kernel_rfl, by kernel_rfl⟩)) (RunR.puts 2 [(18, Vb (c5 || (!x6))), (17, (Bf (!c5) (Vb (!x6))))] (by cases c5 <;> kernel_rfl) (RunR.dyn (Nw (c5 || (!x6)) c7 hc7) (RunR.puts 2 [(21, (Bf (!c7) (Vi r1.f_Customer))), (20, (Bf (!c7) (.ptr (.loc 1 0) 3)))] (by cases c7 <;> kernel_rfl) (RunR.cons (tab_cons (on := (!c7)) (fun hg => chart_in_int_ok (gdO_at hg hx8)) tab_nil) (Step.gdG (!c7) (by kernel_rfl) (by
    cases c7
    ·exact .inr ⟨by kernel_rfl, by kernel_rfl, Kw 119 [] (Vb x8) Hw⟩
    ·exact .inl ⟨by kernel_rfl, by kernel_rfl⟩)) (RunR.puts 2 [(24, Vb (c7 || (!x8))), (23, (Bf (!c7) (Vb (!x8))))] (by cases c7 <;> kernel_rfl) ((.nil _))))))))))))))))) ?_
 refine W.seqCond (t := (c7 || (!x8))) (by kernel_rfl) h (fun hc h' => ?_) (fun hc h' => ?_)
 ·replace h := h'
  refine W.assoc ?_
  refine W.seqOps Aw ?_
  refine W.seqKeep rfl ?_
  cases h
  exact W.seqRet Fw
 ·replace h := h'
  refine W.seqSkip ?_
  refine W.assoc ?_
  obtain ⟨c9, hc9, h⟩ := bindS h
  obtain ⟨c10, hc10, h⟩ := bindS h
  refine W.seqOps (Bw 3 (RunR.dyn (Nw (decide (r1.f_Kind ≥ 2)) c9 hc9) (RunR.puts 3 [(31, (Bf c9 (Vb (r1.f_Customer != 0)))), (30, (Bf c9 (Vi r1.f_Customer))), (29, (Bf c9 (.ptr (.loc 1 0) 3)))] (by cases c9 <;> kernel_rfl) (RunR.dyn (Step.gdG c9 (by kernel_rfl) (by
     cases c9
     ·exact .inl ⟨by kernel_rfl, by kernel_rfl⟩
     ·exact .inr ⟨by kernel_rfl, by kernel_rfl, Nw (r1.f_Customer != 0) c10 hc10⟩)) (RunR.puts 5 [(37, Vb (c9 && (c10 || (r1.f_Product != 0)))), (36, (Bf c9 (Vb (c10 || (r1.f_Product != 0))))), (35, (Bf (c9 && (!c10)) (Vb (r1.f_Product != 0)))), (34, (Bf (c9 && (!c10)) (Vi r1.f_Product))), (33, (Bf (c9 && (!c10)) (.ptr (.loc 1 0) 4)))] (by cases c9 <;> cases c10 <;> kernel_rfl) ((.nil _))))))) ?_
  refine W.seqCond (t := (c9 && (c10 || (r1.f_Product != 0)))) (by kernel_rfl) h (fun hc h' => ?_) (fun hc h' => ?_)
  ·replace h := h'
   refine W.assoc ?_
   refine W.seqOps Aw ?_
   refine W.seqKeep rfl ?_
   cases h
   exact W.seqRet Fw
  ·replace h := h'
   refine W.seqSkip ?_
   obtain ⟨x11, hx11, h⟩ := bindS h
   obtain ⟨x12, hx12, h⟩ := bindS h
   obtain ⟨c13, hc13, h⟩ := bindS h
   obtain ⟨x14, hx14, h⟩ := bindS h
   obtain ⟨c15, hc15, h⟩ := bindS h
   obtain ⟨x16, hx16, h⟩ := bindS h
   obtain ⟨c17, hc17, h⟩ := bindS h
   refine W.seqOps (Bw 2 (RunR.cons (Tw (chart_in_int_ok hx11) tab_nil) (Kw 119 [] (Vb x11) Hw) (Bw 1 (RunR.puts 2 [(43, (Bf x11 (Vi r1.f_Partition))), (42, (Bf x11 (.ptr (.loc 1 0) 5)))] (by cases x11 <;> kernel_rfl) (RunR.cons (tab_cons (on := x11) (fun hg => chart_in_int_ok (gdO_at hg hx12)) tab_nil) (Step.gdG x11 (by kernel_rfl) (by
      cases x11
      ·exact .inl ⟨by kernel_rfl, by kernel_rfl⟩
      ·exact .inr ⟨by kernel_rfl, by kernel_rfl, Kw 119 [] (Vb x12) Hw⟩)) (RunR.puts 1 [(45, Vb (x11 && x12))] (by cases x11 <;> kernel_rfl) (RunR.dyn (Nw (x11 && x12) c13 hc13) (RunR.puts 2 [(48, (Bf c13 (.pv (.int .i32 r1.f_From)))), (47, (Bf c13 (.ptr (.loc 1 0) 6)))] (by cases c13 <;> kernel_rfl) (RunR.cons (tab_cons (on := c13) (fun hg => date_Right_ok (gdO_at hg hx14)) tab_nil) (Step.gdG c13 (by kernel_rfl) (by
      cases c13
      ·exact .inl ⟨by kernel_rfl, by kernel_rfl⟩
      ·exact .inr ⟨by kernel_rfl, by kernel_rfl, Kw 107 [] (Vb x14) Hw⟩)) (RunR.puts 1 [(50, Vb (c13 && x14))] (by cases c13 <;> kernel_rfl) (RunR.dyn (Nw (c13 && x14) c15 hc15) (RunR.puts 2 [(53, (Bf c15 (.pv (.int .i32 r1.f_To)))), (52, (Bf c15 (.ptr (.loc 1 0) 7)))] (by cases c15 <;> kernel_rfl) (RunR.cons (tab_cons (on := c15) (fun hg => date_Right_ok (gdO_at hg hx16)) tab_nil) (Step.gdG c15 (by kernel_rfl) (by
      cases c15
      ·exact .inl ⟨by kernel_rfl, by kernel_rfl⟩
      ·exact .inr ⟨by kernel_rfl, by kernel_rfl, Kw 107 [] (Vb x16) Hw⟩)) (RunR.puts 1 [(55, Vb (c15 && x16))] (by cases c15 <;> kernel_rfl) (RunR.dyn (Nw (c15 && x16) c17 hc17) (RunR.puts 6 [(62, Vb (c17 && (decide (r1.f_From ≤ r1.f_To)))), (61, (Bf c17 (Vb (decide (r1.f_From ≤ r1.f_To))))), (60, (Bf c17 (.pv (.int .i32 r1.f_To)))), (59, (Bf c17 (.ptr (.loc 1 0) 7))), (58, (Bf c17 (.pv (.int .i32 r1.f_From)))), (57, (Bf c17 (.ptr (.loc 1 0) 6)))] (by cases c17 <;> kernel_rfl) Aw)))))))))))))))) ?_
   refine W.keep rfl ?_
   cases h
   exact W.ret Fw
def Q44r0 : List GOp := [o0 2 (.box (.tmp 0)), b0 3 false]
def Q44r1 : List GOp := [f0 7 0 1, l0 8 1 7, f0 9 3 2, l0 10 1 9, o0 11 (.call 0 0 (.cst (.fn 81)) [(.tmp 8), (.tmp 10), (.cst (.fn 73))] [] []), m0 6 11, o0 12 (.ext 0 (.tmp 6)), o0 13 (.ext 1 (.tmp 6)), m0 4 12, m0 5 13]
def Q44r2 : List GOp := [t0 14 8 2, o0 15 (.call 0 0 (.cst (.fn 82)) [(.tmp 14)] [] []), o0 16 (.un .not (.tmp 15)), m0 17 16, g0 18 17 false (.fld 3 (.tmp 2)), g0 19 17 false (.load false 1 (.tmp 18)), g0 20 17 false (.bin false .gtr (.tmp 19) (.cst (.int .i64 0))), g0 21 17 false (.mov (.tmp 20)), g0 22 21 true (.mov (.tmp 5)), g0 23 21 true (.un .not (.tmp 22)), g0 24 17 false (.pick (.tmp 21) (.tmp 23) (.cst (.bool false))), o0 25 (.pick (.tmp 17) (.cst (.bool true)) (.tmp 24)), m0 3 25]
def Q44b : AC := (.seq (.ops Q44r0) (.seq (.ops Q44r1) (.seq (.ops Q44r2) (.keep [] [(3, false)] [(.ext 0, false)] [.loc 2 0] [] .ret))))
def Q44 : Fd := ⟨2, [.tmp 3], [], Q44b⟩
theorem Q44_ag : agreeF Tryz.prog Tryz.f80 Q44 = true := by kernel_rfl
theorem chart_Right_2_ok {r1 : T_api_Record} {e2 : T_api_Chart} {r : Bool} (h : chart_Right_2 r1 e2 = some r) : Contract Tryz.prog 80 [.pv (T_api_Record.pv r1), .ptr (.ext 0) 0] [.box [Vl T_api_Customer.pv e2.f_Customers, Vl T_api_Record.pv e2.f_Records]] ⟨Vb r, [], [(some (.box [Vl T_api_Customer.pv e2.f_Customers, Vl T_api_Record.pv e2.f_Records]))]⟩ := by
 refine contract_fin hm Tryz.func80 Q44_ag (by kernel_rfl) ?_
 unfold chart_Right_2 at h
 refine W.seqOps Aw ?_
 obtain ⟨x3, hx3, h⟩ := bindS h
 refine W.seqOps (Bw 4 (RunR.cons (Tw (chart_place_Customer_int_ok hx3) tab_nil) (Kw 81 [] (.tup [Vi x3.1, Vb x3.2]) Hw) Aw)) ?_
 obtain ⟨x4, hx4, h⟩ := bindS h
 obtain ⟨c5, hc5, h⟩ := bindS h
 obtain ⟨c6, hc6, h⟩ := bindS h
 refine W.seqOps (Bw 1 (RunR.cons (Tw (chart_isRecord_ok hx4) tab_nil) (Kw 82 [] (Vb x4) Hw) (Bw 1 (RunR.dyn (Nw (!x4) c5 hc5) (RunR.puts 3 [(20, (Bf (!c5) (Vb (decide (r1.f_Customer > 0))))), (19, (Bf (!c5) (Vi r1.f_Customer))), (18, (Bf (!c5) (.ptr (.loc 2 0) 3)))] (by cases c5 <;> kernel_rfl) (RunR.dyn (Step.gdG (!c5) (by kernel_rfl) (by
    cases c5
    ·exact .inr ⟨by kernel_rfl, by kernel_rfl, Nw (decide (r1.f_Customer > 0)) c6 hc6⟩
    ·exact .inl ⟨by kernel_rfl, by kernel_rfl⟩)) (RunR.puts 4 [(25, Vb (c5 || (c6 && (!x3.2)))), (24, (Bf (!c5) (Vb (c6 && (!x3.2))))), (23, (Bf ((!c5) && c6) (Vb (!x3.2)))), (22, (Bf ((!c5) && c6) (Vb x3.2)))] (by cases c5 <;> cases c6 <;> kernel_rfl) Aw))))))) ?_
 refine W.keep rfl ?_
 cases h
 exact W.ret Fw
def Q9r0 : List GOp := [k0 4 0]
def Q9r1 : List GOp := [m0 6 0, e0 7 6, k0 8 0]
def Q9r2 : List GOp := [p0 9 .lss 8 7]
def Q9r3 : List GOp := [m0 10 8, m0 5 10]
def Q9r4 : List GOp := [m0 11 1, m0 12 0, m0 13 5, i0 14 8 12 13, t0 15 8 14, o0 16 (.call 0 2 (.tmp 11) [(.tmp 15)] [] [.ext 0])]
def Q9r5 : List GOp := [m0 17 5, m0 4 17]
def Q9r6 : List GOp := [q0 18 .add 8 1, m0 8 18]
def Q9l7 : AC := (.keep [] [(0, false), (1, false), (7, false), (8, false)] [(.ext 0, false)] [] [] (.seq (.ops Q9r2) (.seq (.cond (.tmp 9) .skip (.exit 0)) (.seq (.pass 1 (.seq (.ops Q9r3) (.seq (.ops Q9r4) (.cond (.tmp 16) (.seq (.ops Q9r5) (.keep [] [(4, false)] [(.ext 0, false)] [] [] .ret)) .skip)))) (.ops Q9r6)))))
def Q9r8 : List GOp := [k0 4 (-1)]
def Q9b : AC := (.seq (.ops Q9r0) (.seq (.seq (.ops Q9r1) (.block 0 (.loop [0, 1, 7, 8] [] Q9l7))) (.seq (.keep [] [] [(.ext 0, false)] [] [] (.ops Q9r8)) (.keep [] [(4, false)] [(.ext 0, false)] [] [] .ret))))
def Q9 : Fd := ⟨2, [.tmp 4], [], Q9b⟩
theorem Q9_ag : agreeF Tryz.prog Tryz.f121 Q9 = true := by kernel_rfl
theorem slices_IndexFunc_Record_Record_ok {s1 : List T_api_Record} {e2 : T_api_Chart} {r : Int} (h : slices_IndexFunc_Record_Record s1 e2 = some r) : Contract Tryz.prog 121 [Vl T_api_Record.pv s1, .fn 80 [.ptr (.ext 0) 0]] [.box [Vl T_api_Customer.pv e2.f_Customers, Vl T_api_Record.pv e2.f_Records]] ⟨Vi r, [], [(some (.box [Vl T_api_Customer.pv e2.f_Customers, Vl T_api_Record.pv e2.f_Records]))]⟩ := by
 refine contract_fin hm Tryz.func121 Q9_ag (by kernel_rfl) ?_
 unfold slices_IndexFunc_Record_Record at h
 refine W.seqOps Aw ?_
 refine W.assoc ?_
 refine W.seqOps (Bw 1 (RunR.dyn (Lw T_api_Record.pv s1) Aw)) ?_
 obtain ⟨j3, hj3, h⟩ := bindS h
 refine W.joinOut (j := j3) (o := r) (fun p σ => σ.tidy [] [] [(.ext 0, false)] [] [] = ⟨[], [(.ext 0, .box [Vl T_api_Customer.pv e2.f_Customers, Vl T_api_Record.pv e2.f_Records])]⟩) ?_ (fun p σj3 hp hsj3 => ?_) (fun p hp => ?_)
 ·refine W.blockLoopO (fun q σ => ((σ.forget [0, 1, 7, 8]).killAll []).tidy [] [(0, false), (1, false), (7, false), (8, false)] [(.ext 0, false)] [] [] = ⟨[(0, Vl T_api_Record.pv s1), (1, .fn 80 [.ptr (.ext 0) 0]), (7, Vi (s1.length : Int)), (8, Vi q)], [(.ext 0, .box [Vl T_api_Customer.pv e2.f_Customers, Vl T_api_Record.pv e2.f_Records])]⟩) hj3 ?_ ?_
  ·show _ = _
   kernel_rfl
  ·intro x4 σj3 oj3 hJj3 h
   refine W.keep hJj3 ?_
   refine W.seqOps Aw ?_
   refine W.seqCond (t := decide (x4 < (s1.length : Int))) (by kernel_rfl) h (fun hc h' => ?_) (fun hc h' => ?_)
   ·replace h := h'
    refine W.seqSkip ?_
    refine W.seqPass ?_
    refine W.assoc ?_
    refine W.seqOps Aw ?_
    refine W.assoc ?_
    obtain ⟨x5, hx5, h⟩ := bindS h
    obtain ⟨x6, hx6, h⟩ := bindS h
    refine W.seqOps (Bw 3 (RunR.dyn (Iw T_api_Record.pv s1 x4 x5 hx5) (Bw 1 (RunR.cons (Tw (chart_Right_2_ok hx6) tab_nil) (Step.callG (g := 80) (caps := [.ptr (.ext 0) 0]) (v := Vb x6) (ins := []) rfl (by kernel_rfl) (by kernel_rfl) (by kernel_rfl) Hw (by kernel_rfl) (by kernel_rfl)) ((.nil _)))))) ?_
    refine W.seqCond (t := x6) (by kernel_rfl) h (fun hc h' => ?_) (fun hc h' => ?_)
    ·replace h := h'
     refine W.assoc ?_
     refine W.seqOps Aw ?_
     refine W.seqKeep rfl ?_
     cases h
     exact W.seqRet ((outw_out ret_ne (bout_o ret_ne ret_ne' (fun e => by subst e; exact Fw))))
    ·replace h := h'
     refine W.seqSkip ?_
     refine W.ops Aw ?_
     cases h
     exact Ow
   ·replace h := h'
    cases h
    exact W.seqExit ((outw_out exit_ne (bout_x (by (show _ = _); kernel_rfl))))
 ·subst hp
  obtain ⟨⟩ := p
  refine W.seqKeep hsj3 ?_
  refine W.seqOps Aw ?_
  refine W.keep rfl ?_
  cases h
  exact W.ret Fw
 ·subst hp
  exact Option.some.inj h
def Q5r0 : List GOp := [b0 4 false]
def Q5r1 : List GOp := [m0 5 0, m0 6 1, o0 7 (.call 0 2 (.cst (.fn 121)) [(.tmp 5), (.tmp 6)] [] [.ext 0]), q0 8 .geq 7 0, m0 4 8]
def Q5b : AC := (.seq (.ops Q5r0) (.seq (.ops Q5r1) (.keep [] [(4, false)] [(.ext 0, false)] [] [] .ret)))
def Q5 : Fd := ⟨2, [.tmp 4], [], Q5b⟩
theorem Q5_ag : agreeF Tryz.prog Tryz.f79 Q5 = true := by kernel_rfl
theorem slices_ContainsFunc_Record_Record_ok {s1 : List T_api_Record} {e2 : T_api_Chart} {r : Bool} (h : slices_ContainsFunc_Record_Record s1 e2 = some r) : Contract Tryz.prog 79 [Vl T_api_Record.pv s1, .fn 80 [.ptr (.ext 0) 0]] [.box [Vl T_api_Customer.pv e2.f_Customers, Vl T_api_Record.pv e2.f_Records]] ⟨Vb r, [], [(some (.box [Vl T_api_Customer.pv e2.f_Customers, Vl T_api_Record.pv e2.f_Records]))]⟩ := by
 refine contract_fin hm Tryz.func79 Q5_ag (by kernel_rfl) ?_
 unfold slices_ContainsFunc_Record_Record at h
 refine W.seqOps Aw ?_
 obtain ⟨x3, hx3, h⟩ := bindS h
 refine W.seqOps (Bw 2 (RunR.cons (Tw (slices_IndexFunc_Record_Record_ok hx3) tab_nil) (Step.callG (g := 121) (caps := []) (v := Vi x3) (ins := []) rfl (by kernel_rfl) (by kernel_rfl) (by kernel_rfl) Hw (by kernel_rfl) (by kernel_rfl)) Aw)) ?_
 refine W.keep rfl ?_
 cases h
 exact W.ret Fw
def Q58r0 : List GOp := [o0 1 (.box (.tmp 0)), b0 2 false]
def Q58r1 : List GOp := [f0 3 0 1, l0 4 1 3, e0 5 4, q0 6 .gtr 5 100, m0 7 6, g0 8 7 false (.fld 1 (.tmp 1)), g0 9 7 false (.load false 1 (.tmp 8)), g0 10 7 false (.len false (.tmp 9)), g0 11 7 false (.bin false .gtr (.tmp 10) (.cst (.int .i64 200))), o0 12 (.pick (.tmp 7) (.cst (.bool true)) (.tmp 11)), m0 13 12, g0 14 13 false (.fld 0 (.tmp 1)), g0 15 13 false (.load false 1 (.tmp 14)), g0 16 13 false (.call 0 0 (.cst (.fn 72)) [(.tmp 15), (.cst (.fn 73))] [] []), g0 17 13 false (.un .not (.tmp 16)), o0 18 (.pick (.tmp 13) (.cst (.bool true)) (.tmp 17)), m0 19 18, g0 20 19 false (.fld 1 (.tmp 1)), g0 21 19 false (.load false 1 (.tmp 20)), g0 22 19 false (.call 0 0 (.cst (.fn 74)) [(.tmp 21), (.cst (.fn 75))] [] []), g0 23 19 false (.un .not (.tmp 22)), o0 24 (.pick (.tmp 19) (.cst (.bool true)) (.tmp 23))]
def Q58r2 : List GOp := [b0 2 false]
def Q58r3 : List GOp := [f0 25 0 1, l0 26 1 25, o0 27 (.call 0 0 (.cst (.fn 76)) [(.tmp 26), (.cst (.fn 77))] [] [])]
def Q58r4 : List GOp := [b0 2 false]
def Q58r5 : List GOp := [f0 28 1 1, l0 29 1 28, o0 30 (.mkfn 80 [(.tmp 1)]), o0 31 (.call 0 2 (.cst (.fn 79)) [(.tmp 29), (.tmp 30)] [] [.loc 1 0]), o0 32 (.un .not (.tmp 31)), m0 2 32]
def Q58b : AC := (.seq (.ops Q58r0) (.seq (.seq (.ops Q58r1) (.cond (.tmp 24) (.seq (.ops Q58r2) (.keep [] [(2, false)] [] [.loc 1 0] [] .ret)) .skip)) (.seq (.seq (.ops Q58r3) (.cond (.tmp 27) (.seq (.ops Q58r4) (.keep [] [(2, false)] [] [.loc 1 0] [] .ret)) .skip)) (.seq (.ops Q58r5) (.keep [] [(2, false)] [] [.loc 1 0] [] .ret)))))
def Q58 : Fd := ⟨1, [.tmp 2], [], Q58b⟩
theorem Q58_ag : agreeF Tryz.prog Tryz.f34 Q58 = true := by kernel_rfl
theorem chart_Right_ok {c1 : T_api_Chart} {r : Bool} (h : chart_Right c1 = some r) : Contract Tryz.prog 34 [.pv (T_api_Chart.pv c1)] [] ⟨Vb r, [], []⟩ := by
 refine contract_fin hm Tryz.func34 Q58_ag (by kernel_rfl) ?_
 unfold chart_Right at h
 refine W.seqOps Aw ?_
 refine W.assoc ?_
 obtain ⟨c2, hc2, h⟩ := bindS h
 obtain ⟨c3, hc3, h⟩ := bindS h
 obtain ⟨x4, hx4, h⟩ := bindS h
 obtain ⟨c5, hc5, h⟩ := bindS h
 obtain ⟨x6, hx6, h⟩ := bindS h
 refine W.seqOps (Bw 2 (RunR.dyn (Lw T_api_Customer.pv c1.f_Customers) (Bw 1 (RunR.dyn (Nw (decide ((c1.f_Customers.length : Int) > 100)) c2 hc2) (RunR.puts 2 [(9, (Bf (!c2) (Vl T_api_Record.pv c1.f_Records))), (8, (Bf (!c2) (.ptr (.loc 1 0) 1)))] (by cases c2 <;> kernel_rfl) (RunR.dyn (Step.gdG (!c2) (by kernel_rfl) (by
    cases c2
    ·exact .inr ⟨by kernel_rfl, by kernel_rfl, Lw T_api_Record.pv c1.f_Records⟩
    ·exact .inl ⟨by kernel_rfl, by kernel_rfl⟩)) (RunR.puts 2 [(12, Vb (c2 || (decide ((c1.f_Records.length : Int) > 200)))), (11, (Bf (!c2) (Vb (decide ((c1.f_Records.length : Int) > 200)))))] (by cases c2 <;> kernel_rfl) (RunR.dyn (Nw (c2 || (decide ((c1.f_Records.length : Int) > 200))) c3 hc3) (RunR.puts 2 [(15, (Bf (!c3) (Vl T_api_Customer.pv c1.f_Customers))), (14, (Bf (!c3) (.ptr (.loc 1 0) 0)))] (by cases c3 <;> kernel_rfl) (RunR.cons (tab_cons (on := (!c3)) (fun hg => chart_rises_Customer_int_ok (gdO_at hg hx4)) tab_nil) (Step.gdG (!c3) (by kernel_rfl) (by
    cases c3
    ·exact .inr ⟨by kernel_rfl, by kernel_rfl, Kw 72 [] (Vb x4) Hw⟩
    ·exact .inl ⟨by kernel_rfl, by kernel_rfl⟩)) (RunR.puts 2 [(18, Vb (c3 || (!x4))), (17, (Bf (!c3) (Vb (!x4))))] (by cases c3 <;> kernel_rfl) (RunR.dyn (Nw (c3 || (!x4)) c5 hc5) (RunR.puts 2 [(21, (Bf (!c5) (Vl T_api_Record.pv c1.f_Records))), (20, (Bf (!c5) (.ptr (.loc 1 0) 1)))] (by cases c5 <;> kernel_rfl) (RunR.cons (tab_cons (on := (!c5)) (fun hg => chart_rises_Record_Account_ok (gdO_at hg hx6)) tab_nil) (Step.gdG (!c5) (by kernel_rfl) (by
    cases c5
    ·exact .inr ⟨by kernel_rfl, by kernel_rfl, Kw 74 [] (Vb x6) Hw⟩
    ·exact .inl ⟨by kernel_rfl, by kernel_rfl⟩)) (RunR.puts 2 [(24, Vb (c5 || (!x6))), (23, (Bf (!c5) (Vb (!x6))))] (by cases c5 <;> kernel_rfl) ((.nil _))))))))))))))))) ?_
 refine W.seqCond (t := (c5 || (!x6))) (by kernel_rfl) h (fun hc h' => ?_) (fun hc h' => ?_)
 ·replace h := h'
  refine W.assoc ?_
  refine W.seqOps Aw ?_
  refine W.seqKeep rfl ?_
  cases h
  exact W.seqRet Fw
 ·replace h := h'
  refine W.seqSkip ?_
  refine W.assoc ?_
  obtain ⟨x7, hx7, h⟩ := bindS h
  refine W.seqOps (Bw 2 (RunR.cons (Tw (slices_ContainsFunc_Customer_Customer_ok hx7) tab_nil) (Kw 76 [] (Vb x7) Hw) ((.nil _)))) ?_
  refine W.seqCond (t := x7) (by kernel_rfl) h (fun hc h' => ?_) (fun hc h' => ?_)
  ·replace h := h'
   refine W.assoc ?_
   refine W.seqOps Aw ?_
   refine W.seqKeep rfl ?_
   cases h
   exact W.seqRet Fw
  ·replace h := h'
   refine W.seqSkip ?_
   obtain ⟨x8, hx8, h⟩ := bindS h
   refine W.seqOps (Bw 3 (RunR.cons (Tw (slices_ContainsFunc_Record_Record_ok hx8) tab_nil) (Step.callG (g := 79) (caps := []) (v := Vb x8) (ins := []) rfl (by kernel_rfl) (by kernel_rfl) (by kernel_rfl) Hw (by kernel_rfl) (by kernel_rfl)) Aw)) ?_
   refine W.keep rfl ?_
   cases h
   exact W.ret Fw
def Q80r0 : List GOp := [b0 2 false]
def Q80r1 : List GOp := [m0 3 0, q0 4 .geq 3 0, m0 5 4, g0 6 5 true (.mov (.tmp 0)), g0 7 5 true (.bin false .lss (.tmp 6) (.cst (.int .i64 4))), o0 8 (.pick (.tmp 5) (.tmp 7) (.cst (.bool false))), m0 2 8]
def Q80b : AC := (.seq (.ops Q80r0) (.seq (.ops Q80r1) (.keep [] [(2, false)] [] [] [] .ret)))
def Q80 : Fd := ⟨1, [.tmp 2], [], Q80b⟩
theorem Q80_ag : agreeF Tryz.prog Tryz.f130 Q80 = true := by kernel_rfl
theorem money_is_ok {cur1 : Int} {r : Bool} (h : money_is cur1 = some r) : Contract Tryz.prog 130 [Vi cur1] [] ⟨Vb r, [], []⟩ := by
 refine contract_fin hm Tryz.func130 Q80_ag (by kernel_rfl) ?_
 unfold money_is at h
 refine W.seqOps Aw ?_
 obtain ⟨c2, hc2, h⟩ := bindS h
 refine W.seqOps (Bw 2 (RunR.dyn (Nw (decide (cur1 ≥ 0)) c2 hc2) (RunR.puts 3 [(8, Vb (c2 && (decide (cur1 < 4)))), (7, (Bf c2 (Vb (decide (cur1 < 4))))), (6, (Bf c2 (Vi cur1)))] (by cases c2 <;> kernel_rfl) Aw))) ?_
 refine W.keep rfl ?_
 cases h
 exact W.ret Fw
def Q59r0 : List GOp := [o0 1 (.box (.tmp 0)), b0 2 false]
def Q59r1 : List GOp := [f0 3 0 1, l0 4 1 3, o0 5 (.call 0 0 (.cst (.fn 130)) [(.tmp 4)] [] []), m0 6 5, g0 7 6 true (.fld 1 (.tmp 1)), g0 8 6 true (.load false 1 (.tmp 7)), g0 9 6 true (.bin false .geq (.tmp 8) (.cst (.int .i64 (-1000000000000000)))), o0 10 (.pick (.tmp 6) (.tmp 9) (.cst (.bool false))), m0 11 10, g0 12 11 true (.fld 1 (.tmp 1)), g0 13 11 true (.load false 1 (.tmp 12)), g0 14 11 true (.bin false .leq (.tmp 13) (.cst (.int .i64 1000000000000000))), o0 15 (.pick (.tmp 11) (.tmp 14) (.cst (.bool false))), m0 2 15]
def Q59b : AC := (.seq (.ops Q59r0) (.seq (.ops Q59r1) (.keep [] [(2, false)] [] [.loc 1 0] [] .ret)))
def Q59 : Fd := ⟨1, [.tmp 2], [], Q59b⟩
theorem Q59_ag : agreeF Tryz.prog Tryz.f99 Q59 = true := by kernel_rfl
theorem money_Right_ok {m1 : T_api_Money} {r : Bool} (h : money_Right m1 = some r) : Contract Tryz.prog 99 [.pv (T_api_Money.pv m1)] [] ⟨Vb r, [], []⟩ := by
 refine contract_fin hm Tryz.func99 Q59_ag (by kernel_rfl) ?_
 unfold money_Right at h
 refine W.seqOps Aw ?_
 obtain ⟨x2, hx2, h⟩ := bindS h
 obtain ⟨c3, hc3, h⟩ := bindS h
 refine W.seqOps (Bw 2 (RunR.cons (Tw (money_is_ok hx2) tab_nil) (Kw 130 [] (Vb x2) Hw) (Bw 1 (RunR.puts 4 [(10, Vb (x2 && (decide (m1.f_Minor ≥ (-1000000000000000))))), (9, (Bf x2 (Vb (decide (m1.f_Minor ≥ (-1000000000000000)))))), (8, (Bf x2 (Vi m1.f_Minor))), (7, (Bf x2 (.ptr (.loc 1 0) 1)))] (by cases x2 <;> kernel_rfl) (RunR.dyn (Nw (x2 && (decide (m1.f_Minor ≥ (-1000000000000000)))) c3 hc3) (RunR.puts 4 [(15, Vb (c3 && (decide (m1.f_Minor ≤ 1000000000000000)))), (14, (Bf c3 (Vb (decide (m1.f_Minor ≤ 1000000000000000))))), (13, (Bf c3 (Vi m1.f_Minor))), (12, (Bf c3 (.ptr (.loc 1 0) 1)))] (by cases c3 <;> kernel_rfl) Aw)))))) ?_
 refine W.keep rfl ?_
 cases h
 exact W.ret Fw
def Q68r0 : List GOp := [o0 1 (.box (.tmp 0)), b0 2 false]
def Q68r1 : List GOp := [f0 5 0 1, l0 6 1 5, q0 7 .geq 6 1, m0 8 7, g0 9 8 true (.fld 0 (.tmp 1)), g0 10 8 true (.load false 1 (.tmp 9)), g0 11 8 true (.bin false .leq (.tmp 10) (.cst (.int .i64 1000000))), o0 12 (.pick (.tmp 8) (.tmp 11) (.cst (.bool false))), m0 13 12, g0 14 13 true (.fld 1 (.tmp 1)), g0 15 13 true (.load false 1 (.tmp 14)), g0 16 13 true (.bin false .geq (.tmp 15) (.cst (.int .i64 1))), o0 17 (.pick (.tmp 13) (.tmp 16) (.cst (.bool false))), m0 18 17, g0 19 18 true (.fld 1 (.tmp 1)), g0 20 18 true (.load false 1 (.tmp 19)), g0 21 18 true (.bin false .leq (.tmp 20) (.cst (.int .i64 999))), o0 22 (.pick (.tmp 18) (.tmp 21) (.cst (.bool false))), m0 23 22, g0 24 23 true (.fld 4 (.tmp 1)), g0 25 23 true (.load false 1 (.tmp 24)), g0 26 23 true (.bin false .geq (.tmp 25) (.cst (.int .i64 0))), o0 27 (.pick (.tmp 23) (.tmp 26) (.cst (.bool false))), m0 28 27, g0 29 28 true (.fld 4 (.tmp 1)), g0 30 28 true (.load false 1 (.tmp 29)), g0 31 28 true (.bin false .leq (.tmp 30) (.cst (.int .i64 9))), o0 32 (.pick (.tmp 28) (.tmp 31) (.cst (.bool false))), m0 3 32]
def Q68r2 : List GOp := [f0 33 2 1, t0 34 2 33, o0 35 (.call 0 0 (.cst (.fn 99)) [(.tmp 34)] [] []), m0 36 35, g0 37 36 true (.fld 2 (.tmp 1)), g0 38 36 true (.fld 1 (.tmp 37)), g0 39 36 true (.load false 1 (.tmp 38)), g0 40 36 true (.bin false .gtr (.tmp 39) (.cst (.int .i64 0))), o0 41 (.pick (.tmp 36) (.tmp 40) (.cst (.bool false))), m0 42 41, g0 43 42 true (.fld 7 (.tmp 1)), g0 44 42 true (.load false 1 (.tmp 43)), g0 45 42 true (.bin false .geq (.tmp 44) (.cst (.int .i64 0))), o0 46 (.pick (.tmp 42) (.tmp 45) (.cst (.bool false))), m0 47 46, g0 48 47 true (.fld 7 (.tmp 1)), g0 49 47 true (.load false 1 (.tmp 48)), g0 50 47 true (.fld 2 (.tmp 1)), g0 51 47 true (.fld 1 (.tmp 50)), g0 52 47 true (.load false 1 (.tmp 51)), g0 53 47 true (.bin false .leq (.tmp 49) (.tmp 52)), o0 54 (.pick (.tmp 47) (.tmp 53) (.cst (.bool false))), m0 4 54]
def Q68r3 : List GOp := [m0 55 3, m0 56 55, g0 57 56 true (.mov (.tmp 4)), o0 58 (.pick (.tmp 56) (.tmp 57) (.cst (.bool false))), m0 59 58, g0 60 59 true (.fld 5 (.tmp 1)), g0 61 59 true (.load false 1 (.tmp 60)), g0 62 59 true (.call 0 0 (.cst (.fn 107)) [(.tmp 61)] [] []), o0 63 (.pick (.tmp 59) (.tmp 62) (.cst (.bool false))), m0 64 63, g0 65 64 true (.fld 6 (.tmp 1)), g0 66 64 true (.load false 1 (.tmp 65)), g0 67 64 true (.call 0 0 (.cst (.fn 107)) [(.tmp 66)] [] []), o0 68 (.pick (.tmp 64) (.tmp 67) (.cst (.bool false))), m0 69 68, g0 70 69 true (.fld 5 (.tmp 1)), g0 71 69 true (.load false 1 (.tmp 70)), g0 72 69 true (.fld 6 (.tmp 1)), g0 73 69 true (.load false 1 (.tmp 72)), g0 74 69 true (.bin false .leq (.tmp 71) (.tmp 73)), o0 75 (.pick (.tmp 69) (.tmp 74) (.cst (.bool false))), m0 2 75]
def Q68b : AC := (.seq (.ops Q68r0) (.seq (.ops Q68r1) (.seq (.ops Q68r2) (.seq (.ops Q68r3) (.keep [] [(2, false)] [] [.loc 1 0] [] .ret)))))
def Q68 : Fd := ⟨1, [.tmp 2], [], Q68b⟩
theorem Q68_ag : agreeF Tryz.prog Tryz.f84 Q68 = true := by kernel_rfl
theorem hold_right_ok {h1 : T_api_Hold} {r : Bool} (h : hold_right h1 = some r) : Contract Tryz.prog 84 [.pv (T_api_Hold.pv h1)] [] ⟨Vb r, [], []⟩ := by
 refine contract_fin hm Tryz.func84 Q68_ag (by kernel_rfl) ?_
 unfold hold_right at h
 refine W.seqOps Aw ?_
 obtain ⟨c2, hc2, h⟩ := bindS h
 obtain ⟨c3, hc3, h⟩ := bindS h
 obtain ⟨c4, hc4, h⟩ := bindS h
 obtain ⟨c5, hc5, h⟩ := bindS h
 obtain ⟨c6, hc6, h⟩ := bindS h
 refine W.seqOps (Bw 3 (RunR.dyn (Nw (decide (h1.f_ID ≥ 1)) c2 hc2) (RunR.puts 4 [(12, Vb (c2 && (decide (h1.f_ID ≤ 1000000)))), (11, (Bf c2 (Vb (decide (h1.f_ID ≤ 1000000))))), (10, (Bf c2 (Vi h1.f_ID))), (9, (Bf c2 (.ptr (.loc 1 0) 0)))] (by cases c2 <;> kernel_rfl) (RunR.dyn (Nw (c2 && (decide (h1.f_ID ≤ 1000000))) c3 hc3) (RunR.puts 4 [(17, Vb (c3 && (decide (h1.f_Acc ≥ 1)))), (16, (Bf c3 (Vb (decide (h1.f_Acc ≥ 1))))), (15, (Bf c3 (Vi h1.f_Acc))), (14, (Bf c3 (.ptr (.loc 1 0) 1)))] (by cases c3 <;> kernel_rfl) (RunR.dyn (Nw (c3 && (decide (h1.f_Acc ≥ 1))) c4 hc4) (RunR.puts 4 [(22, Vb (c4 && (decide (h1.f_Acc ≤ 999)))), (21, (Bf c4 (Vb (decide (h1.f_Acc ≤ 999))))), (20, (Bf c4 (Vi h1.f_Acc))), (19, (Bf c4 (.ptr (.loc 1 0) 1)))] (by cases c4 <;> kernel_rfl) (RunR.dyn (Nw (c4 && (decide (h1.f_Acc ≤ 999))) c5 hc5) (RunR.puts 4 [(27, Vb (c5 && (decide (h1.f_Rank ≥ 0)))), (26, (Bf c5 (Vb (decide (h1.f_Rank ≥ 0))))), (25, (Bf c5 (Vi h1.f_Rank))), (24, (Bf c5 (.ptr (.loc 1 0) 4)))] (by cases c5 <;> kernel_rfl) (RunR.dyn (Nw (c5 && (decide (h1.f_Rank ≥ 0))) c6 hc6) (RunR.puts 4 [(32, Vb (c6 && (decide (h1.f_Rank ≤ 9)))), (31, (Bf c6 (Vb (decide (h1.f_Rank ≤ 9))))), (30, (Bf c6 (Vi h1.f_Rank))), (29, (Bf c6 (.ptr (.loc 1 0) 4)))] (by cases c6 <;> kernel_rfl) Aw))))))))))) ?_
 obtain ⟨x7, hx7, h⟩ := bindS h
 obtain ⟨c8, hc8, h⟩ := bindS h
 obtain ⟨c9, hc9, h⟩ := bindS h
 refine W.seqOps (Bw 2 (RunR.cons (Tw (money_Right_ok hx7) tab_nil) (Kw 99 [] (Vb x7) Hw) (Bw 1 (RunR.puts 5 [(41, Vb (x7 && (decide (h1.f_Amount.f_Minor > 0)))), (40, (Bf x7 (Vb (decide (h1.f_Amount.f_Minor > 0))))), (39, (Bf x7 (Vi h1.f_Amount.f_Minor))), (38, (Bf x7 (.ptr (.loc 1 0) 3))), (37, (Bf x7 (.ptr (.loc 1 0) 2)))] (by cases x7 <;> kernel_rfl) (RunR.dyn (Nw (x7 && (decide (h1.f_Amount.f_Minor > 0))) c8 hc8) (RunR.puts 4 [(46, Vb (c8 && (decide (h1.f_Taken ≥ 0)))), (45, (Bf c8 (Vb (decide (h1.f_Taken ≥ 0))))), (44, (Bf c8 (Vi h1.f_Taken))), (43, (Bf c8 (.ptr (.loc 1 0) 7)))] (by cases c8 <;> kernel_rfl) (RunR.dyn (Nw (c8 && (decide (h1.f_Taken ≥ 0))) c9 hc9) (RunR.puts 7 [(54, Vb (c9 && (decide (h1.f_Taken ≤ h1.f_Amount.f_Minor)))), (53, (Bf c9 (Vb (decide (h1.f_Taken ≤ h1.f_Amount.f_Minor))))), (52, (Bf c9 (Vi h1.f_Amount.f_Minor))), (51, (Bf c9 (.ptr (.loc 1 0) 3))), (50, (Bf c9 (.ptr (.loc 1 0) 2))), (49, (Bf c9 (Vi h1.f_Taken))), (48, (Bf c9 (.ptr (.loc 1 0) 7)))] (by cases c9 <;> kernel_rfl) Aw)))))))) ?_
 obtain ⟨c10, hc10, h⟩ := bindS h
 obtain ⟨c11, hc11, h⟩ := bindS h
 obtain ⟨x12, hx12, h⟩ := bindS h
 obtain ⟨c13, hc13, h⟩ := bindS h
 obtain ⟨x14, hx14, h⟩ := bindS h
 obtain ⟨c15, hc15, h⟩ := bindS h
 refine W.seqOps (Bw 1 (RunR.dyn (Nw (c6 && (decide (h1.f_Rank ≤ 9))) c10 hc10) (RunR.puts 2 [(58, Vb (c10 && (c9 && (decide (h1.f_Taken ≤ h1.f_Amount.f_Minor))))), (57, (Bf c10 (Vb (c9 && (decide (h1.f_Taken ≤ h1.f_Amount.f_Minor))))))] (by cases c10 <;> kernel_rfl) (RunR.dyn (Nw (c10 && (c9 && (decide (h1.f_Taken ≤ h1.f_Amount.f_Minor)))) c11 hc11) (RunR.puts 2 [(61, (Bf c11 (.pv (.int .i32 h1.f_Made)))), (60, (Bf c11 (.ptr (.loc 1 0) 5)))] (by cases c11 <;> kernel_rfl) (RunR.cons (tab_cons (on := c11) (fun hg => date_Right_ok (gdO_at hg hx12)) tab_nil) (Step.gdG c11 (by kernel_rfl) (by
    cases c11
    ·exact .inl ⟨by kernel_rfl, by kernel_rfl⟩
    ·exact .inr ⟨by kernel_rfl, by kernel_rfl, Kw 107 [] (Vb x12) Hw⟩)) (RunR.puts 1 [(63, Vb (c11 && x12))] (by cases c11 <;> kernel_rfl) (RunR.dyn (Nw (c11 && x12) c13 hc13) (RunR.puts 2 [(66, (Bf c13 (.pv (.int .i32 h1.f_Until)))), (65, (Bf c13 (.ptr (.loc 1 0) 6)))] (by cases c13 <;> kernel_rfl) (RunR.cons (tab_cons (on := c13) (fun hg => date_Right_ok (gdO_at hg hx14)) tab_nil) (Step.gdG c13 (by kernel_rfl) (by
    cases c13
    ·exact .inl ⟨by kernel_rfl, by kernel_rfl⟩
    ·exact .inr ⟨by kernel_rfl, by kernel_rfl, Kw 107 [] (Vb x14) Hw⟩)) (RunR.puts 1 [(68, Vb (c13 && x14))] (by cases c13 <;> kernel_rfl) (RunR.dyn (Nw (c13 && x14) c15 hc15) (RunR.puts 6 [(75, Vb (c15 && (decide (h1.f_Made ≤ h1.f_Until)))), (74, (Bf c15 (Vb (decide (h1.f_Made ≤ h1.f_Until))))), (73, (Bf c15 (.pv (.int .i32 h1.f_Until)))), (72, (Bf c15 (.ptr (.loc 1 0) 6))), (71, (Bf c15 (.pv (.int .i32 h1.f_Made)))), (70, (Bf c15 (.ptr (.loc 1 0) 5)))] (by cases c15 <;> kernel_rfl) Aw))))))))))))) ?_
 refine W.keep rfl ?_
 cases h
 exact W.ret Fw
def Q48r0 : List GOp := [o0 1 (.box (.tmp 0)), b0 2 false]
def Q48r1 : List GOp := [t0 3 9 1, o0 4 (.call 0 0 (.cst (.fn 84)) [(.tmp 3)] [] []), o0 5 (.un .not (.tmp 4)), m0 2 5]
def Q48b : AC := (.seq (.ops Q48r0) (.seq (.ops Q48r1) (.keep [] [(2, false)] [] [.loc 1 0] [] .ret)))
def Q48 : Fd := ⟨1, [.tmp 2], [], Q48b⟩
theorem Q48_ag : agreeF Tryz.prog Tryz.f83 Q48 = true := by kernel_rfl
theorem hold_Check_1_ok {h1 : T_api_Hold} {r : Bool} (h : hold_Check_1 h1 = some r) : Contract Tryz.prog 83 [.pv (T_api_Hold.pv h1)] [] ⟨Vb r, [], []⟩ := by
 refine contract_fin hm Tryz.func83 Q48_ag (by kernel_rfl) ?_
 unfold hold_Check_1 at h
 refine W.seqOps Aw ?_
 obtain ⟨x2, hx2, h⟩ := bindS h
 refine W.seqOps (Bw 1 (RunR.cons (Tw (hold_right_ok hx2) tab_nil) (Kw 84 [] (Vb x2) Hw) Aw)) ?_
 refine W.keep rfl ?_
 cases h
 exact W.ret Fw
def Q19r0 : List GOp := [k0 4 0]
def Q19r1 : List GOp := [m0 6 0, e0 7 6, k0 8 0]
def Q19r2 : List GOp := [p0 9 .lss 8 7]
def Q19r3 : List GOp := [m0 10 8, m0 5 10]
def Q19r4 : List GOp := [m0 11 1, m0 12 0, m0 13 5, i0 14 9 12 13, t0 15 9 14, o0 16 (.call 0 0 (.tmp 11) [(.tmp 15)] [] [])]
def Q19r5 : List GOp := [m0 17 5, m0 4 17]
def Q19r6 : List GOp := [q0 18 .add 8 1, m0 8 18]
def Q19l7 : AC := (.keep [] [(0, false), (1, false), (7, false), (8, false)] [] [] [] (.seq (.ops Q19r2) (.seq (.cond (.tmp 9) .skip (.exit 0)) (.seq (.pass 1 (.seq (.ops Q19r3) (.seq (.ops Q19r4) (.cond (.tmp 16) (.seq (.ops Q19r5) (.keep [] [(4, false)] [] [] [] .ret)) .skip)))) (.ops Q19r6)))))
def Q19r8 : List GOp := [k0 4 (-1)]
def Q19b : AC := (.seq (.ops Q19r0) (.seq (.seq (.ops Q19r1) (.block 0 (.loop [0, 1, 7, 8] [] Q19l7))) (.seq (.keep [] [] [] [] [] (.ops Q19r8)) (.keep [] [(4, false)] [] [] [] .ret))))
def Q19 : Fd := ⟨2, [.tmp 4], [], Q19b⟩
theorem Q19_ag : agreeF Tryz.prog Tryz.f50 Q19 = true := by kernel_rfl
theorem slices_IndexFunc_Hold_Hold_ok {s1 : List T_api_Hold} {r : Int} (h : slices_IndexFunc_Hold_Hold s1 = some r) : Contract Tryz.prog 50 [Vl T_api_Hold.pv s1, .pv (.fn 83)] [] ⟨Vi r, [], []⟩ := by
 refine contract_fin hm Tryz.func50 Q19_ag (by kernel_rfl) ?_
 unfold slices_IndexFunc_Hold_Hold at h
 refine W.seqOps Aw ?_
 refine W.assoc ?_
 refine W.seqOps (Bw 1 (RunR.dyn (Lw T_api_Hold.pv s1) Aw)) ?_
 obtain ⟨j2, hj2, h⟩ := bindS h
 refine W.joinOut (j := j2) (o := r) (fun p σ => σ.tidy [] [] [] [] [] = ⟨[], []⟩) ?_ (fun p σj2 hp hsj2 => ?_) (fun p hp => ?_)
 ·refine W.blockLoopO (fun q σ => ((σ.forget [0, 1, 7, 8]).killAll []).tidy [] [(0, false), (1, false), (7, false), (8, false)] [] [] [] = ⟨[(0, Vl T_api_Hold.pv s1), (1, .pv (.fn 83)), (7, Vi (s1.length : Int)), (8, Vi q)], []⟩) hj2 ?_ ?_
  ·show _ = _
   kernel_rfl
  ·intro x3 σj2 oj2 hJj2 h
   refine W.keep hJj2 ?_
   refine W.seqOps Aw ?_
   refine W.seqCond (t := decide (x3 < (s1.length : Int))) (by kernel_rfl) h (fun hc h' => ?_) (fun hc h' => ?_)
   ·replace h := h'
    refine W.seqSkip ?_
    refine W.seqPass ?_
    refine W.assoc ?_
    refine W.seqOps Aw ?_
    refine W.assoc ?_
    obtain ⟨x4, hx4, h⟩ := bindS h
    obtain ⟨x5, hx5, h⟩ := bindS h
    refine W.seqOps (Bw 3 (RunR.dyn (Iw T_api_Hold.pv s1 x3 x4 hx4) (Bw 1 (RunR.cons (Tw (hold_Check_1_ok hx5) tab_nil) (Kw 83 [] (Vb x5) Hw) ((.nil _)))))) ?_
    refine W.seqCond (t := x5) (by kernel_rfl) h (fun hc h' => ?_) (fun hc h' => ?_)
    ·replace h := h'
     refine W.assoc ?_
     refine W.seqOps Aw ?_
     refine W.seqKeep rfl ?_
     cases h
     exact W.seqRet ((outw_out ret_ne (bout_o ret_ne ret_ne' (fun e => by subst e; exact Fw))))
    ·replace h := h'
     refine W.seqSkip ?_
     refine W.ops Aw ?_
     cases h
     exact Ow
   ·replace h := h'
    cases h
    exact W.seqExit ((outw_out exit_ne (bout_x (by (show _ = _); kernel_rfl))))
 ·subst hp
  obtain ⟨⟩ := p
  refine W.seqKeep hsj2 ?_
  refine W.seqOps Aw ?_
  refine W.keep rfl ?_
  cases h
  exact W.ret Fw
 ·subst hp
  exact Option.some.inj h
def Q10r0 : List GOp := [b0 4 false]
def Q10r1 : List GOp := [m0 5 0, m0 6 1, o0 7 (.call 0 0 (.cst (.fn 50)) [(.tmp 5), (.tmp 6)] [] []), q0 8 .geq 7 0, m0 4 8]
def Q10b : AC := (.seq (.ops Q10r0) (.seq (.ops Q10r1) (.keep [] [(4, false)] [] [] [] .ret)))
def Q10 : Fd := ⟨2, [.tmp 4], [], Q10b⟩
theorem Q10_ag : agreeF Tryz.prog Tryz.f85 Q10 = true := by kernel_rfl
theorem slices_ContainsFunc_Hold_Hold_ok {s1 : List T_api_Hold} {r : Bool} (h : slices_ContainsFunc_Hold_Hold s1 = some r) : Contract Tryz.prog 85 [Vl T_api_Hold.pv s1, .pv (.fn 83)] [] ⟨Vb r, [], []⟩ := by
 refine contract_fin hm Tryz.func85 Q10_ag (by kernel_rfl) ?_
 unfold slices_ContainsFunc_Hold_Hold at h
 refine W.seqOps Aw ?_
 obtain ⟨x2, hx2, h⟩ := bindS h
 refine W.seqOps (Bw 2 (RunR.cons (Tw (slices_IndexFunc_Hold_Hold_ok hx2) tab_nil) (Kw 50 [] (Vi x2) Hw) Aw)) ?_
 refine W.keep rfl ?_
 cases h
 exact W.ret Fw
def Q69r0 : List GOp := [k0 2 0]
def Q69r1 : List GOp := [o0 3 (.mov (.cst (.fn 83)))]
def Q69r2 : List GOp := [m0 5 0, m0 6 3, o0 7 (.call 0 0 (.cst (.fn 85)) [(.tmp 5), (.tmp 6)] [] [])]
def Q69r3 : List GOp := [k0 2 1]
def Q69r4 : List GOp := [k0 4 1]
def Q69r5 : List GOp := [m0 8 4, m0 9 0, e0 10 9, p0 11 .lss 8 10]
def Q69r6 : List GOp := [m0 14 0, m0 15 4, q0 16 .sub 15 1, i0 17 9 14 16, f0 18 0 17, l0 19 1 18, m0 20 0, m0 21 4, i0 22 9 20 21, f0 23 0 22, l0 24 1 23, p0 25 .geq 19 24]
def Q69r7 : List GOp := [k0 2 20]
def Q69r8 : List GOp := [m0 12 4, q0 13 .add 12 1, m0 4 13]
def Q69l9 : AC := (.keep [] [(0, false), (4, false)] [] [] [] (.seq (.seq (.ops Q69r5) (.cond (.tmp 11) .skip (.exit 0))) (.seq (.pass 1 (.seq (.draw [] Q69r6) (.cond (.tmp 25) (.seq (.ops Q69r7) (.keep [] [(2, false)] [] [] [] .ret)) .skip))) (.ops Q69r8))))
def Q69r10 : List GOp := [m0 26 0, e0 27 26, q0 28 .gtr 27 200]
def Q69r11 : List GOp := [k0 2 6]
def Q69r12 : List GOp := [k0 2 0]
def Q69b : AC := (.seq (.ops Q69r0) (.seq (.ops Q69r1) (.seq (.seq (.ops Q69r2) (.cond (.tmp 7) (.seq (.ops Q69r3) (.keep [] [(2, false)] [] [] [] .ret)) .skip)) (.seq (.seq (.ops Q69r4) (.block 0 (.loop [0, 4] [] Q69l9))) (.seq (.seq (.keep [] [(0, false)] [] [] [] (.ops Q69r10)) (.cond (.tmp 28) (.seq (.ops Q69r11) (.keep [] [(2, false)] [] [] [] .ret)) .skip)) (.seq (.ops Q69r12) (.keep [] [(2, false)] [] [] [] .ret)))))))
def Q69 : Fd := ⟨1, [.tmp 2], [], Q69b⟩
theorem Q69_ag : agreeF Tryz.prog Tryz.f35 Q69 = true := by kernel_rfl
theorem hold_Check_ok {l1 : List T_api_Hold} {r : Int} (h : hold_Check l1 = some r) : Contract Tryz.prog 35 [Vl T_api_Hold.pv l1] [] ⟨Vi r, [], []⟩ := by
 refine contract_fin hm Tryz.func35 Q69_ag (by kernel_rfl) ?_
 unfold hold_Check at h
 refine W.seqOps Aw ?_
 refine W.seqOps Aw ?_
 refine W.assoc ?_
 obtain ⟨x2, hx2, h⟩ := bindS h
 refine W.seqOps (Bw 2 (RunR.cons (Tw (slices_ContainsFunc_Hold_Hold_ok hx2) tab_nil) (Kw 85 [] (Vb x2) Hw) ((.nil _)))) ?_
 refine W.seqCond (t := x2) (by kernel_rfl) h (fun hc h' => ?_) (fun hc h' => ?_)
 ·replace h := h'
  refine W.assoc ?_
  refine W.seqOps Aw ?_
  refine W.seqKeep rfl ?_
  cases h
  exact W.seqRet Fw
 ·replace h := h'
  refine W.seqSkip ?_
  refine W.assoc ?_
  refine W.seqOps Aw ?_
  obtain ⟨j3, hj3, h⟩ := bindS h
  refine W.joinOut (j := j3) (o := r) (fun p σ => σ.tidy [] [(0, false)] [] [] [] = ⟨[(0, Vl T_api_Hold.pv l1)], []⟩) ?_ (fun p σj3 hp hsj3 => ?_) (fun p hp => ?_)
  ·refine W.blockLoopO (fun q σ => ((σ.forget [0, 4]).killAll []).tidy [] [(0, false), (4, false)] [] [] [] = ⟨[(0, Vl T_api_Hold.pv l1), (4, Vi q)], []⟩) hj3 ?_ ?_
   ·show _ = _
    kernel_rfl
   ·intro i4 σj3 oj3 hJj3 h
    refine W.keep hJj3 ?_
    refine W.assoc ?_
    refine W.seqOps (Bw 2 (RunR.dyn (Lw T_api_Hold.pv l1) Aw)) ?_
    refine W.seqCond (t := decide (i4 < (l1.length : Int))) (by kernel_rfl) h (fun hc h' => ?_) (fun hc h' => ?_)
    ·replace h := h'
     refine W.seqSkip ?_
     refine W.seqPass ?_
     refine W.assoc ?_
     obtain ⟨x5, hx5, h⟩ := bindS h
     obtain ⟨x6, hx6, h⟩ := bindS h
     refine W.seqDraw tab_nil (Dw 3 (Run.dyn (Iw T_api_Hold.pv l1 (IntKind.wrap .i64 (i4 - 1)) x5 hx5) (Dw 4 (Run.dyn (Iw T_api_Hold.pv l1 i4 x6 hx6) Cw)))) ?_
     refine W.seqCond (t := decide (x5.f_ID ≥ x6.f_ID)) (by kernel_rfl) h (fun hc h' => ?_) (fun hc h' => ?_)
     ·replace h := h'
      refine W.assoc ?_
      refine W.seqOps Aw ?_
      refine W.seqKeep rfl ?_
      cases h
      exact W.seqRet ((outw_out ret_ne (bout_o ret_ne ret_ne' (fun e => by subst e; exact Fw))))
     ·replace h := h'
      refine W.seqSkip ?_
      refine W.ops Aw ?_
      cases h
      exact Ow
    ·replace h := h'
     cases h
     exact W.seqExit ((outw_out exit_ne (bout_x (by (show _ = _); kernel_rfl))))
  ·subst hp
   obtain ⟨⟩ := p
   refine W.assoc ?_
   refine W.seqKeep hsj3 ?_
   refine W.seqOps (Bw 1 (RunR.dyn (Lw T_api_Hold.pv l1) Aw)) ?_
   refine W.seqCond (t := decide ((l1.length : Int) > 200)) (by kernel_rfl) h (fun hc h' => ?_) (fun hc h' => ?_)
   ·replace h := h'
    refine W.assoc ?_
    refine W.seqOps Aw ?_
    refine W.seqKeep rfl ?_
    cases h
    exact W.seqRet Fw
   ·replace h := h'
    refine W.seqSkip ?_
    refine W.seqOps Aw ?_
    refine W.keep rfl ?_
    cases h
    exact W.ret Fw
  ·subst hp
   exact Option.some.inj h
def Q60r0 : List GOp := [o0 1 (.box (.tmp 0)), b0 2 false]
def Q60r1 : List GOp := [f0 5 4 1, l0 6 1 5, e0 7 6, k0 8 0]
def Q60r2 : List GOp := [p0 9 .lss 8 7]
def Q60r3 : List GOp := [m0 10 8, i0 11 2 6 8, t0 12 2 11, o0 4 (.alloc [.pv (.int .i64 0), .pv (.int .i64 0)]), m0 3 10, s0 2 4 12]
def Q60r4 : List GOp := [f0 13 0 4, l0 14 1 13, o0 15 (.call 0 0 (.cst (.fn 33)) [(.tmp 14), (.cst (.int .i64 1)), (.cst (.int .i64 999))] [] []), o0 16 (.un .not (.tmp 15)), m0 17 16, g0 18 17 false (.fld 1 (.tmp 4)), g0 19 17 false (.load false 1 (.tmp 18)), g0 20 17 false (.call 0 0 (.cst (.fn 32)) [(.tmp 19), (.cst (.int .i64 0)), (.cst (.int .i64 1000000000000000))] [] []), g0 21 17 false (.un .not (.tmp 20)), o0 22 (.pick (.tmp 17) (.cst (.bool true)) (.tmp 21)), m0 23 22, g0 24 23 false (.mov (.tmp 3)), g0 25 23 false (.bin false .gtr (.tmp 24) (.cst (.int .i64 0))), g0 26 23 false (.mov (.tmp 25)), g0 27 26 true (.fld 4 (.tmp 1)), g0 28 26 true (.load false 1 (.tmp 27)), g0 29 26 true (.mov (.tmp 3)), g0 30 26 true (.bin false .sub (.tmp 29) (.cst (.int .i64 1))), g0 31 26 true (.idx 2 (.tmp 28) (.tmp 30)), g0 32 26 true (.fld 0 (.tmp 31)), g0 33 26 true (.load false 1 (.tmp 32)), g0 34 26 true (.fld 0 (.tmp 4)), g0 35 26 true (.load false 1 (.tmp 34)), g0 36 26 true (.bin false .geq (.tmp 33) (.tmp 35)), g0 37 23 false (.pick (.tmp 26) (.tmp 36) (.cst (.bool false))), o0 38 (.pick (.tmp 23) (.cst (.bool true)) (.tmp 37))]
def Q60r5 : List GOp := [b0 2 false]
def Q60r6 : List GOp := [q0 39 .add 8 1, m0 8 39]
def Q60l7 : AC := (.keep [] [(1, false), (6, false), (7, false), (8, false)] [(.loc 1 0, false)] [.loc 4 0] [] (.seq (.ops Q60r2) (.seq (.cond (.tmp 9) .skip (.exit 0)) (.seq (.pass 1 (.seq (.ops Q60r3) (.seq (.draw [] Q60r4) (.cond (.tmp 38) (.seq (.ops Q60r5) (.keep [] [(2, false)] [] [.loc 1 0, .loc 4 0] [] .ret)) .skip)))) (.ops Q60r6)))))
def Q60r8 : List GOp := [f0 40 0 1, t0 41 2 40, o0 42 (.call 0 0 (.cst (.fn 34)) [(.tmp 41)] [] []), m0 43 42, g0 44 43 true (.fld 2 (.tmp 1)), g0 45 43 true (.load false 1 (.tmp 44)), g0 46 43 true (.len false (.tmp 45)), g0 47 43 true (.bin false .leq (.tmp 46) (.cst (.int .i64 2000))), o0 48 (.pick (.tmp 43) (.tmp 47) (.cst (.bool false))), m0 49 48, g0 50 49 true (.fld 3 (.tmp 1)), g0 51 49 true (.load false 1 (.tmp 50)), g0 52 49 true (.call 0 0 (.cst (.fn 35)) [(.tmp 51)] [] []), g0 53 49 true (.bin false .eql (.tmp 52) (.cst (.int .i64 0))), o0 54 (.pick (.tmp 49) (.tmp 53) (.cst (.bool false))), m0 55 54, g0 56 55 true (.fld 4 (.tmp 1)), g0 57 55 true (.load false 1 (.tmp 56)), g0 58 55 true (.len false (.tmp 57)), g0 59 55 true (.bin false .leq (.tmp 58) (.cst (.int .i64 200))), o0 60 (.pick (.tmp 55) (.tmp 59) (.cst (.bool false))), m0 2 60]
def Q60b : AC := (.seq (.ops Q60r0) (.seq (.seq (.ops Q60r1) (.block 0 (.loop [1, 6, 7, 8] [] Q60l7))) (.seq (.keep [] [(1, false)] [(.loc 1 0, false)] [] [] (.ops Q60r8)) (.keep [] [(2, false)] [] [.loc 1 0, .loc 4 0] [] .ret))))
def Q60 : Fd := ⟨1, [.tmp 2], [], Q60b⟩
theorem Q60_ag : agreeF Tryz.prog Tryz.f11 Q60 = true := by kernel_rfl
theorem avail_Right_ok {t1 : T_api_Till} {r : Bool} (h : avail_Right t1 = some r) : Contract Tryz.prog 11 [.pv (T_api_Till.pv t1)] [] ⟨Vb r, [], []⟩ := by
 refine contract_fin hm Tryz.func11 Q60_ag (by kernel_rfl) ?_
 unfold avail_Right at h
 refine W.seqOps Aw ?_
 refine W.assoc ?_
 refine W.seqOps (Bw 2 (RunR.dyn (Lw T_api_Limit.pv t1.f_Limits) Aw)) ?_
 obtain ⟨j2, hj2, h⟩ := bindS h
 refine W.joinOut (j := j2) (o := r) (fun p σ => σ.tidy [] [(1, false)] [(.loc 1 0, false)] [] [] = ⟨[(1, .ptr (.loc 1 0) 0)], [(.loc 1 0, .box [Vl T_api_Customer.pv t1.f_Chart.f_Customers, Vl T_api_Record.pv t1.f_Chart.f_Records, Vl T_api_Posting.pv t1.f_L, Vl T_api_Hold.pv t1.f_Holds, Vl T_api_Limit.pv t1.f_Limits])]⟩) ?_ (fun p σj2 hp hsj2 => ?_) (fun p hp => ?_)
 ·refine W.blockLoopO (fun q σ => ((σ.forget [1, 6, 7, 8]).killAll []).tidy [] [(1, false), (6, false), (7, false), (8, false)] [(.loc 1 0, false)] [.loc 4 0] [] = ⟨[(1, .ptr (.loc 1 0) 0), (6, Vl T_api_Limit.pv t1.f_Limits), (7, Vi (t1.f_Limits.length : Int)), (8, Vi q)], [(.loc 1 0, .box [Vl T_api_Customer.pv t1.f_Chart.f_Customers, Vl T_api_Record.pv t1.f_Chart.f_Records, Vl T_api_Posting.pv t1.f_L, Vl T_api_Hold.pv t1.f_Holds, Vl T_api_Limit.pv t1.f_Limits])]⟩) hj2 ?_ ?_
  ·show _ = _
   kernel_rfl
  ·intro x3 σj2 oj2 hJj2 h
   refine W.keep hJj2 ?_
   refine W.seqOps Aw ?_
   refine W.seqCond (t := decide (x3 < (t1.f_Limits.length : Int))) (by kernel_rfl) h (fun hc h' => ?_) (fun hc h' => ?_)
   ·replace h := h'
    refine W.seqSkip ?_
    refine W.seqPass ?_
    refine W.assoc ?_
    obtain ⟨x4, hx4, h⟩ := bindS h
    refine W.seqOps (Bw 1 (RunR.dyn (Iw T_api_Limit.pv t1.f_Limits x3 x4 hx4) Aw)) ?_
    refine W.assoc ?_
    obtain ⟨x5, hx5, h⟩ := bindS h
    obtain ⟨c6, hc6, h⟩ := bindS h
    obtain ⟨x7, hx7, h⟩ := bindS h
    obtain ⟨c8, hc8, h⟩ := bindS h
    obtain ⟨c9, hc9, h⟩ := bindS h
    obtain ⟨x10, hx10, h⟩ := bindS h
    refine W.seqDraw (Tw (avail_in_Account_ok hx5) (tab_cons (on := (!c6)) (fun hg => avail_in_int64_ok (gdO_at hg hx7)) tab_nil)) (Dw 2 (Run.dyn (Kw 33 [] (Vb x5) Hw) (Dw 1 (Run.dyn (Nw (!x5) c6 hc6) (Run.puts 2 [(19, (Bf (!c6) (Vi x4.f_Minor))), (18, (Bf (!c6) (.ptr (.loc 4 0) 1)))] (by cases c6 <;> kernel_rfl) (Run.dyn (Step.gdG (!c6) (by kernel_rfl) (by
       cases c6
       ·exact .inr ⟨by kernel_rfl, by kernel_rfl, Kw 32 [] (Vb x7) (tab_next rfl Hw)⟩
       ·exact .inl ⟨by kernel_rfl, by kernel_rfl⟩)) (Run.puts 2 [(22, Vb (c6 || (!x7))), (21, (Bf (!c6) (Vb (!x7))))] (by cases c6 <;> kernel_rfl) (Run.dyn (Nw (c6 || (!x7)) c8 hc8) (Run.puts 2 [(25, (Bf (!c8) (Vb (decide (x3 > 0))))), (24, (Bf (!c8) (Vi x3)))] (by cases c8 <;> kernel_rfl) (Run.dyn (Step.gdG (!c8) (by kernel_rfl) (by
       cases c8
       ·exact .inr ⟨by kernel_rfl, by kernel_rfl, Nw (decide (x3 > 0)) c9 hc9⟩
       ·exact .inl ⟨by kernel_rfl, by kernel_rfl⟩)) (Run.puts 4 [(30, (Bf ((!c8) && c9) (Vi (IntKind.wrap .i64 (x3 - 1))))), (29, (Bf ((!c8) && c9) (Vi x3))), (28, (Bf ((!c8) && c9) (Vl T_api_Limit.pv t1.f_Limits))), (27, (Bf ((!c8) && c9) (.ptr (.loc 1 0) 4)))] (by cases c8 <;> cases c9 <;> kernel_rfl) (Run.dyn (Step.gdG ((!c8) && c9) (by kernel_rfl) (by
       cases c8
       ·cases c9
        ·exact .inl ⟨by kernel_rfl, by kernel_rfl⟩
        ·exact .inr ⟨by kernel_rfl, by kernel_rfl, Iw T_api_Limit.pv t1.f_Limits (IntKind.wrap .i64 (x3 - 1)) x10 hx10⟩
       ·cases c9
        ·exact .inl ⟨by kernel_rfl, by kernel_rfl⟩
        ·exact .inl ⟨by kernel_rfl, by kernel_rfl⟩)) (Run.puts 7 [(38, Vb (c8 || (c9 && (decide (x10.f_Acc ≥ x4.f_Acc))))), (37, (Bf (!c8) (Vb (c9 && (decide (x10.f_Acc ≥ x4.f_Acc)))))), (36, (Bf ((!c8) && c9) (Vb (decide (x10.f_Acc ≥ x4.f_Acc))))), (35, (Bf ((!c8) && c9) (Vi x4.f_Acc))), (34, (Bf ((!c8) && c9) (.ptr (.loc 4 0) 0))), (33, (Bf ((!c8) && c9) (Vi x10.f_Acc))), (32, (Bf ((!c8) && c9) (.ipv (T_api_Limit.pv x10) 0)))] (by cases c8 <;> cases c9 <;> kernel_rfl) ((Run.nil))))))))))))))) ?_
    refine W.seqCond (t := (c8 || (c9 && (decide (x10.f_Acc ≥ x4.f_Acc))))) (by kernel_rfl) h (fun hc h' => ?_) (fun hc h' => ?_)
    ·replace h := h'
     refine W.assoc ?_
     refine W.seqOps Aw ?_
     refine W.seqKeep rfl ?_
     cases h
     exact W.seqRet ((outw_out ret_ne (bout_o ret_ne ret_ne' (fun e => by subst e; exact Fw))))
    ·replace h := h'
     refine W.seqSkip ?_
     refine W.ops Aw ?_
     cases h
     exact Ow
   ·replace h := h'
    cases h
    exact W.seqExit ((outw_out exit_ne (bout_x (by (show _ = _); kernel_rfl))))
 ·subst hp
  obtain ⟨⟩ := p
  refine W.seqKeep hsj2 ?_
  obtain ⟨x11, hx11, h⟩ := bindS h
  obtain ⟨c12, hc12, h⟩ := bindS h
  obtain ⟨x13, hx13, h⟩ := bindS h
  obtain ⟨c14, hc14, h⟩ := bindS h
  refine W.seqOps (Bw 2 (RunR.cons (Tw (chart_Right_ok hx11) tab_nil) (Kw 34 [] (Vb x11) Hw) (Bw 1 (RunR.puts 2 [(45, (Bf x11 (Vl T_api_Posting.pv t1.f_L))), (44, (Bf x11 (.ptr (.loc 1 0) 2)))] (by cases x11 <;> kernel_rfl) (RunR.dyn (Step.gdG x11 (by kernel_rfl) (by
     cases x11
     ·exact .inl ⟨by kernel_rfl, by kernel_rfl⟩
     ·exact .inr ⟨by kernel_rfl, by kernel_rfl, Lw T_api_Posting.pv t1.f_L⟩)) (RunR.puts 2 [(48, Vb (x11 && (decide ((t1.f_L.length : Int) ≤ 2000)))), (47, (Bf x11 (Vb (decide ((t1.f_L.length : Int) ≤ 2000)))))] (by cases x11 <;> kernel_rfl) (RunR.dyn (Nw (x11 && (decide ((t1.f_L.length : Int) ≤ 2000))) c12 hc12) (RunR.puts 2 [(51, (Bf c12 (Vl T_api_Hold.pv t1.f_Holds))), (50, (Bf c12 (.ptr (.loc 1 0) 3)))] (by cases c12 <;> kernel_rfl) (RunR.cons (tab_cons (on := c12) (fun hg => hold_Check_ok (gdO_at hg hx13)) tab_nil) (Step.gdG c12 (by kernel_rfl) (by
     cases c12
     ·exact .inl ⟨by kernel_rfl, by kernel_rfl⟩
     ·exact .inr ⟨by kernel_rfl, by kernel_rfl, Kw 35 [] (Vi x13) Hw⟩)) (RunR.puts 2 [(54, Vb (c12 && (x13 == 0))), (53, (Bf c12 (Vb (x13 == 0))))] (by cases c12 <;> kernel_rfl) (RunR.dyn (Nw (c12 && (x13 == 0)) c14 hc14) (RunR.puts 2 [(57, (Bf c14 (Vl T_api_Limit.pv t1.f_Limits))), (56, (Bf c14 (.ptr (.loc 1 0) 4)))] (by cases c14 <;> kernel_rfl) (RunR.dyn (Step.gdG c14 (by kernel_rfl) (by
     cases c14
     ·exact .inl ⟨by kernel_rfl, by kernel_rfl⟩
     ·exact .inr ⟨by kernel_rfl, by kernel_rfl, Lw T_api_Limit.pv t1.f_Limits⟩)) (RunR.puts 2 [(60, Vb (c14 && (decide ((t1.f_Limits.length : Int) ≤ 200)))), (59, (Bf c14 (Vb (decide ((t1.f_Limits.length : Int) ≤ 200)))))] (by cases c14 <;> kernel_rfl) Aw)))))))))))))) ?_
  refine W.keep rfl ?_
  cases h
  exact W.ret Fw
 ·subst hp
  exact Option.some.inj h
def Q49r0 : List GOp := [o0 2 (.box (.tmp 0)), k0 4 0]
def Q49r1 : List GOp := [f0 5 0 2, l0 6 1 5, m0 7 1, o0 8 (.call 0 0 (.cst (.fn 104)) [(.tmp 6), (.tmp 7)] [] []), m0 4 8]
def Q49b : AC := (.seq (.ops Q49r0) (.seq (.ops Q49r1) (.keep [] [(4, false)] [] [.loc 2 0] [] .ret)))
def Q49 : Fd := ⟨2, [.tmp 4], [], Q49b⟩
theorem Q49_ag : agreeF Tryz.prog Tryz.f127 Q49 = true := by kernel_rfl
theorem hold_place_1_ok {h1 : T_api_Hold} {id2 : Int} {r : Int} (h : hold_place_1 h1 id2 = some r) : Contract Tryz.prog 127 [.pv (T_api_Hold.pv h1), Vi id2] [] ⟨Vi r, [], []⟩ := by
 refine contract_fin hm Tryz.func127 Q49_ag (by kernel_rfl) ?_
 unfold hold_place_1 at h
 refine W.seqOps Aw ?_
 obtain ⟨x3, hx3, h⟩ := bindS h
 refine W.seqOps (Bw 3 (RunR.cons (Tw (cmp_Compare_int_ok hx3) tab_nil) (Kw 104 [] (Vi x3) Hw) Aw)) ?_
 refine W.keep rfl ?_
 cases h
 exact W.ret Fw
def Q3r0 : List GOp := [k0 6 0, b0 7 false]
def Q3r1 : List GOp := [m0 12 0, e0 13 12, m0 8 13]
def Q3r2 : List GOp := [m0 14 8, k0 9 0, m0 10 14]
def Q3r3 : List GOp := [m0 15 9, m0 16 10, p0 17 .lss 15 16]
def Q3r4 : List GOp := [m0 18 9, m0 19 10, p0 20 .add 18 19, o0 21 (.conv .u64 (.tmp 20)), o0 22 (.bin false .shr (.tmp 21) (.cst (.int .u64 1))), o0 23 (.conv .i64 (.tmp 22)), m0 11 23]
def Q3r5 : List GOp := [m0 24 2, m0 25 0, m0 26 11, i0 27 9 25 26, t0 28 9 27, m0 29 1, o0 30 (.call 0 0 (.tmp 24) [(.tmp 28), (.tmp 29)] [] []), q0 31 .lss 30 0]
def Q3r6 : List GOp := [m0 32 11, q0 33 .add 32 1, m0 9 33]
def Q3r7 : List GOp := [m0 34 11, m0 10 34]
def Q3l8 : AC := (.keep [] [(0, false), (1, false), (2, false), (8, false), (9, false), (10, false)] [] [] [] (.seq (.seq (.ops Q3r3) (.cond (.tmp 17) .skip (.exit 0))) (.pass 1 (.seq (.ops Q3r4) (.seq (.ops Q3r5) (.cond (.tmp 31) (.ops Q3r6) (.ops Q3r7)))))))
def Q3r9 : List GOp := [m0 35 9, m0 36 9, m0 37 8, p0 38 .lss 36 37, m0 39 38, g0 40 39 true (.mov (.tmp 2)), g0 41 39 true (.mov (.tmp 0)), g0 42 39 true (.mov (.tmp 9)), g0 43 39 true (.idx 9 (.tmp 41) (.tmp 42)), g0 44 39 true (.load true 9 (.tmp 43)), g0 45 39 true (.mov (.tmp 1)), g0 46 39 true (.call 0 0 (.tmp 40) [(.tmp 44), (.tmp 45)] [] []), g0 47 39 true (.bin false .eql (.tmp 46) (.cst (.int .i64 0))), o0 48 (.pick (.tmp 39) (.tmp 47) (.cst (.bool false))), m0 6 35, m0 7 48]
def Q3b : AC := (.seq (.ops Q3r0) (.seq (.ops Q3r1) (.seq (.ops Q3r2) (.seq (.block 0 (.loop [0, 1, 2, 8, 9, 10] [] Q3l8)) (.seq (.keep [] [(0, false), (1, false), (2, false), (8, false), (9, false)] [] [] [] (.ops Q3r9)) (.keep [] [(6, false), (7, false)] [] [] [] .ret))))))
def Q3 : Fd := ⟨3, [.tmp 6, .tmp 7], [], Q3b⟩
theorem Q3_ag : agreeF Tryz.prog Tryz.f126 Q3 = true := by kernel_rfl
theorem slices_BinarySearchFunc_Hold_Hold_int_ok {x1 : List T_api_Hold} {target2 : Int} {r : Int × Bool} (h : slices_BinarySearchFunc_Hold_Hold_int x1 target2 = some r) : Contract Tryz.prog 126 [Vl T_api_Hold.pv x1, Vi target2, .pv (.fn 127)] [] ⟨.tup [Vi r.1, Vb r.2], [], []⟩ := by
 refine contract_fin hm Tryz.func126 Q3_ag (by kernel_rfl) ?_
 unfold slices_BinarySearchFunc_Hold_Hold_int at h
 refine W.seqOps Aw ?_
 refine W.seqOps (Bw 1 (RunR.dyn (Lw T_api_Hold.pv x1) Aw)) ?_
 refine W.seqOps Aw ?_
 obtain ⟨j3, hj3, h⟩ := bindS h
 refine W.join (j := j3) (fun p σ => σ.tidy [] [(0, false), (1, false), (2, false), (8, false), (9, false)] [] [] [] = ⟨[(0, Vl T_api_Hold.pv x1), (1, Vi target2), (2, .pv (.fn 127)), (8, Vi (x1.length : Int)), (9, Vi p)], []⟩) ?_ (fun σj3 hsj3 => ?_)
 ·refine W.blockLoop (fun q σ => ((σ.forget [0, 1, 2, 8, 9, 10]).killAll []).tidy [] [(0, false), (1, false), (2, false), (8, false), (9, false), (10, false)] [] [] [] = ⟨[(0, Vl T_api_Hold.pv x1), (1, Vi target2), (2, .pv (.fn 127)), (8, Vi (x1.length : Int)), (9, Vi q.1), (10, Vi q.2)], []⟩) hj3 ?_ ?_
  ·show _ = _
   kernel_rfl
  ·intro q σj3 oj3 hJj3 h
   obtain ⟨i4, j5⟩ := q
   refine W.keep hJj3 ?_
   refine W.assoc ?_
   refine W.seqOps Aw ?_
   refine W.seqCond (t := decide (i4 < j5)) (by kernel_rfl) h (fun hc h' => ?_) (fun hc h' => ?_)
   ·replace h := h'
    refine W.seqSkip ?_
    refine W.pass ?_
    refine W.seqOps Aw ?_
    obtain ⟨x6, hx6, h⟩ := bindS h
    obtain ⟨x7, hx7, h⟩ := bindS h
    refine W.seqOps (Bw 3 (RunR.dyn (Iw T_api_Hold.pv x1 (IntKind.wrap .i64 (Int.fdiv (IntKind.wrap .u64 (IntKind.wrap .i64 (i4 + j5))) 2)) x6 hx6) (Bw 2 (RunR.cons (Tw (hold_place_1_ok hx7) tab_nil) (Kw 127 [] (Vi x7) Hw) Aw)))) ?_
    refine W.condI (t := decide (x7 < 0)) (by kernel_rfl) h (fun hc h' => ?_) (fun hc h' => ?_)
    ·replace h := h'
     refine W.ops Aw ?_
     cases h
     exact Ow
    ·replace h := h'
     refine W.ops Aw ?_
     cases h
     exact Ow
   ·replace h := h'
    cases h
    exact W.seqExit ((outw_out exit_ne (bnorm_x (by (show _ = _); kernel_rfl))))
 ·refine W.seqKeep hsj3 ?_
  obtain ⟨c9, hc9, h⟩ := bindS h
  obtain ⟨x10, hx10, h⟩ := bindS h
  obtain ⟨x11, hx11, h⟩ := bindS h
  refine W.seqOps (Bw 4 (RunR.dyn (Nw (decide (j3 < (x1.length : Int))) c9 hc9) (RunR.puts 3 [(42, (Bf c9 (Vi j3))), (41, (Bf c9 (Vl T_api_Hold.pv x1))), (40, (Bf c9 (.pv (.fn 127))))] (by cases c9 <;> kernel_rfl) (RunR.dyn (Step.gdG c9 (by kernel_rfl) (by
     cases c9
     ·exact .inl ⟨by kernel_rfl, by kernel_rfl⟩
     ·exact .inr ⟨by kernel_rfl, by kernel_rfl, Iw T_api_Hold.pv x1 j3 x10 hx10⟩)) (RunR.puts 2 [(45, (Bf c9 (Vi target2))), (44, (Bf c9 (.pv (T_api_Hold.pv x10))))] (by cases c9 <;> kernel_rfl) (RunR.cons (tab_cons (on := c9) (fun hg => hold_place_1_ok (gdO_at hg hx11)) tab_nil) (Step.gdG c9 (by kernel_rfl) (by
     cases c9
     ·exact .inl ⟨by kernel_rfl, by kernel_rfl⟩
     ·exact .inr ⟨by kernel_rfl, by kernel_rfl, Kw 127 [] (Vi x11) Hw⟩)) (RunR.puts 2 [(48, Vb (c9 && (x11 == 0))), (47, (Bf c9 (Vb (x11 == 0))))] (by cases c9 <;> kernel_rfl) Aw))))))) ?_
  refine W.keep rfl ?_
  cases h
  exact W.ret Fw
def Q70r0 : List GOp := [k0 4 0, b0 5 false]
def Q70r1 : List GOp := [m0 6 0, m0 7 1, o0 8 (.call 0 0 (.cst (.fn 126)) [(.tmp 6), (.tmp 7), (.cst (.fn 127))] [] []), o0 9 (.ext 0 (.tmp 8)), o0 10 (.ext 1 (.tmp 8)), m0 4 9, m0 5 10]
def Q70b : AC := (.seq (.ops Q70r0) (.seq (.ops Q70r1) (.keep [] [(4, false), (5, false)] [] [] [] .ret)))
def Q70 : Fd := ⟨2, [.tmp 4, .tmp 5], [], Q70b⟩
theorem Q70_ag : agreeF Tryz.prog Tryz.f92 Q70 = true := by kernel_rfl
theorem hold_place_ok {l1 : List T_api_Hold} {id2 : Int} {r : Int × Bool} (h : hold_place l1 id2 = some r) : Contract Tryz.prog 92 [Vl T_api_Hold.pv l1, Vi id2] [] ⟨.tup [Vi r.1, Vb r.2], [], []⟩ := by
 refine contract_fin hm Tryz.func92 Q70_ag (by kernel_rfl) ?_
 unfold hold_place at h
 refine W.seqOps Aw ?_
 obtain ⟨x3, hx3, h⟩ := bindS h
 refine W.seqOps (Bw 2 (RunR.cons (Tw (slices_BinarySearchFunc_Hold_Hold_int_ok hx3) tab_nil) (Kw 126 [] (.tup [Vi x3.1, Vb x3.2]) Hw) Aw)) ?_
 refine W.keep rfl ?_
 cases h
 exact W.ret Fw
def Q81r0 : List GOp := [o0 3 (.box (.tmp 1)), o0 4 (.mov .nils), k0 5 0]
def Q81r1 : List GOp := [m0 9 0, o0 10 (.call 0 0 (.cst (.fn 35)) [(.tmp 9)] [] []), m0 6 10]
def Q81r2 : List GOp := [m0 11 6, q0 12 .neq 11 0]
def Q81r3 : List GOp := [m0 13 6, o0 4 (.mov .nils), m0 5 13]
def Q81r4 : List GOp := [m0 15 0, f0 16 0 3, l0 17 1 16, o0 18 (.call 0 0 (.cst (.fn 92)) [(.tmp 15), (.tmp 17)] [] []), m0 14 18, o0 19 (.ext 0 (.tmp 14)), o0 20 (.ext 1 (.tmp 14)), m0 7 19, m0 8 20]
def Q81r5 : List GOp := [t0 22 9 3, o0 23 (.call 0 0 (.cst (.fn 84)) [(.tmp 22)] [] []), o0 24 (.un .not (.tmp 23)), m0 25 24, g0 26 25 false (.fld 7 (.tmp 3)), g0 27 25 false (.load false 1 (.tmp 26)), g0 28 25 false (.bin false .gtr (.tmp 27) (.cst (.int .i64 0))), o0 29 (.pick (.tmp 25) (.cst (.bool true)) (.tmp 28)), m0 30 29, g0 31 30 false (.fld 8 (.tmp 3)), g0 32 30 false (.load false 1 (.tmp 31)), o0 33 (.pick (.tmp 30) (.cst (.bool true)) (.tmp 32)), m0 21 33]
def Q81r6 : List GOp := [o0 4 (.mov .nils), k0 5 1]
def Q81r7 : List GOp := [m0 35 8, m0 34 35]
def Q81r8 : List GOp := [o0 4 (.mov .nils), k0 5 26]
def Q81r9 : List GOp := [m0 37 0, e0 38 37, q0 39 .geq 38 200, m0 36 39]
def Q81r10 : List GOp := [o0 4 (.mov .nils), k0 5 6]
def Q81r11 : List GOp := [m0 40 0, o0 41 (.call 1 0 (.cst (.fn 94)) [(.tmp 40)] [] []), m0 42 7, t0 43 9 3, o0 44 (.lit true 9 [(.tmp 43)]), o0 45 (.ins 93 9 64 41 (.tmp 42) (.tmp 44)), m0 4 45, k0 5 0]
def phold_Addr11z : List GOp := []
def Q81b : AC := (.seq (.ops Q81r0) (.seq (.seq (.ops Q81r1) (.seq (.ops Q81r2) (.cond (.tmp 12) (.seq (.ops Q81r3) (.keep [.loc 45 0] [(4, true), (5, false)] [] [.loc 3 0, .loc 44 0] [] .ret)) .skip))) (.seq (.ops Q81r4) (.seq (.pass 0 (.seq (.ops Q81r5) (.cond (.tmp 21) (.seq (.ops Q81r6) (.keep [.loc 45 0] [(4, true), (5, false)] [] [.loc 3 0, .loc 44 0] [] .ret)) (.seq (.ops Q81r7) (.cond (.tmp 34) (.seq (.ops Q81r8) (.keep [.loc 45 0] [(4, true), (5, false)] [] [.loc 3 0, .loc 44 0] [] .ret)) (.seq (.ops Q81r9) (.cond (.tmp 36) (.seq (.ops Q81r10) (.keep [.loc 45 0] [(4, true), (5, false)] [] [.loc 3 0, .loc 44 0] [] .ret)) .skip))))))) (.seq (.keep [] [(0, false), (3, false), (7, false)] [(.loc 3 0, false)] [] [] (.drawZ [.loc 41 0, .loc 44 0, .loc 45 0] Q81r11 phold_Addr11z)) (.keep [.loc 45 0] [(4, true), (5, false)] [] [.loc 3 0, .loc 44 0] [] .ret))))))
def Q81 : Fd := ⟨2, [.tmp 4, .tmp 5], [], Q81b⟩
theorem Q81_ag : agreeF Tryz.prog Tryz.f47 Q81 = true := by kernel_rfl
theorem hold_Add_ok {l1 : List T_api_Hold} {h2 : T_api_Hold} {r : (List T_api_Hold) × Int} (h : hold_Add l1 h2 = some r) : Contract Tryz.prog 47 [Vl T_api_Hold.pv l1, .pv (T_api_Hold.pv h2)] [] ⟨.tup [Vl T_api_Hold.pv r.1, Vi r.2], [], []⟩ := by
 refine contract_fin hm Tryz.func47 Q81_ag (by kernel_rfl) ?_
 unfold hold_Add at h
 refine W.seqOps Aw ?_
 refine W.assoc ?_
 obtain ⟨x3, hx3, h⟩ := bindS h
 refine W.seqOps (Bw 1 (RunR.cons (Tw (hold_Check_ok hx3) tab_nil) (Kw 35 [] (Vi x3) Hw) Aw)) ?_
 refine W.assoc ?_
 refine W.seqOps Aw ?_
 refine W.seqCond (t := (x3 != 0)) (by kernel_rfl) h (fun hc h' => ?_) (fun hc h' => ?_)
 ·replace h := h'
  refine W.assoc ?_
  refine W.seqOps Aw ?_
  refine W.seqKeep rfl ?_
  cases h
  exact W.seqRet Fw
 ·replace h := h'
  refine W.seqSkip ?_
  obtain ⟨x4, hx4, h⟩ := bindS h
  refine W.seqOps (Bw 3 (RunR.cons (Tw (hold_place_ok hx4) tab_nil) (Kw 92 [] (.tup [Vi x4.1, Vb x4.2]) Hw) Aw)) ?_
  refine W.seqPass ?_
  refine W.assoc ?_
  obtain ⟨x5, hx5, h⟩ := bindS h
  obtain ⟨c6, hc6, h⟩ := bindS h
  obtain ⟨c7, hc7, h⟩ := bindS h
  refine W.seqOps (Bw 1 (RunR.cons (Tw (hold_right_ok hx5) tab_nil) (Kw 84 [] (Vb x5) Hw) (Bw 1 (RunR.dyn (Nw (!x5) c6 hc6) (RunR.puts 4 [(29, Vb (c6 || (decide (h2.f_Taken > 0)))), (28, (Bf (!c6) (Vb (decide (h2.f_Taken > 0))))), (27, (Bf (!c6) (Vi h2.f_Taken))), (26, (Bf (!c6) (.ptr (.loc 3 0) 7)))] (by cases c6 <;> kernel_rfl) (RunR.dyn (Nw (c6 || (decide (h2.f_Taken > 0))) c7 hc7) (RunR.puts 3 [(33, Vb (c7 || h2.f_Done)), (32, (Bf (!c7) (Vb h2.f_Done))), (31, (Bf (!c7) (.ptr (.loc 3 0) 8)))] (by cases c7 <;> kernel_rfl) Aw))))))) ?_
  refine W.seqCond (t := (c7 || h2.f_Done)) (by kernel_rfl) h (fun hc h' => ?_) (fun hc h' => ?_)
  ·replace h := h'
   refine W.assoc ?_
   refine W.seqOps Aw ?_
   refine W.seqKeep rfl ?_
   cases h
   exact W.seqRet Fw
  ·replace h := h'
   refine W.assoc ?_
   refine W.seqOps Aw ?_
   refine W.seqCond (t := x4.2) (by kernel_rfl) h (fun hc h' => ?_) (fun hc h' => ?_)
   ·replace h := h'
    refine W.assoc ?_
    refine W.seqOps Aw ?_
    refine W.seqKeep rfl ?_
    cases h
    exact W.seqRet Fw
   ·replace h := h'
    refine W.assoc ?_
    refine W.seqOps (Bw 1 (RunR.dyn (Lw T_api_Hold.pv l1) Aw)) ?_
    refine W.seqCond (t := decide ((l1.length : Int) ≥ 200)) (by kernel_rfl) h (fun hc h' => ?_) (fun hc h' => ?_)
    ·replace h := h'
     refine W.assoc ?_
     refine W.seqOps Aw ?_
     refine W.seqKeep rfl ?_
     cases h
     exact W.seqRet Fw
    ·replace h := h'
     refine W.seqSkip ?_
     obtain ⟨x8, hx8, h⟩ := bindS h
     obtain ⟨x9, hx9, h⟩ := bindS h
     refine W.seqKeep rfl ?_
     refine W.seqDrawZ (Tw (slices_Clone94_ok hx8) tab_nil) (hI_of (by kernel_rfl) (hI_cons insC93 hI_nil)) (Dw 1 (Run.dyn (Step.callD (g := 94) (caps := []) (v := .own (.loc 41 0)) (ins := [(.loc 41 0, .row 9 (List.map T_api_Hold.pv x8))]) (by kernel_rfl) (by kernel_rfl) (by kernel_rfl) Hw (by kernel_rfl)) (Dw 3 (Run.dyn (Step.insT (k := .loc 41 0) (k2 := .loc 44 0) (F := T_api_Hold.pv) (l := x8) (r := x9) (e := h2) (n := x4.1) (by kernel_rfl) (by kernel_rfl) (by kernel_rfl) (by kernel_rfl) (by kernel_rfl) (by kernel_rfl) hx9) Cw)))) (by kernel_rfl) ((.nil _)) ?_
     refine W.keep rfl ?_
     cases h
     exact W.ret Fw
def Q33r0 : List GOp := [b0 2 false]
def Q33r1 : List GOp := [m0 3 0, m0 4 0, p0 5 .neq 3 4, m0 2 5]
def Q33b : AC := (.seq (.ops Q33r0) (.seq (.ops Q33r1) (.keep [] [(2, false)] [] [] [] .ret)))
def Q33 : Fd := ⟨1, [.tmp 2], [], Q33b⟩
theorem Q33_ag : agreeF Tryz.prog Tryz.f148 Q33 = true := by kernel_rfl
theorem cmp_isNaN_Account_ok {x1 : Int} {r : Bool} (h : cmp_isNaN_Account x1 = some r) : Contract Tryz.prog 148 [Vi x1] [] ⟨Vb r, [], []⟩ := by
 refine contract_fin hm Tryz.func148 Q33_ag (by kernel_rfl) ?_
 unfold cmp_isNaN_Account at h
 refine W.seqOps Aw ?_
 refine W.seqOps Aw ?_
 refine W.keep rfl ?_
 cases h
 exact W.ret Fw
def Q27r0 : List GOp := [k0 4 0]
def Q27r1 : List GOp := [m0 7 0, o0 8 (.call 0 0 (.cst (.fn 148)) [(.tmp 7)] [] []), m0 5 8]
def Q27r2 : List GOp := [m0 9 1, o0 10 (.call 0 0 (.cst (.fn 148)) [(.tmp 9)] [] []), m0 6 10]
def Q27r3 : List GOp := [m0 11 5]
def Q27r4 : List GOp := [m0 12 6]
def Q27r5 : List GOp := [k0 4 0]
def Q27r6 : List GOp := [k0 4 (-1)]
def Q27r7 : List GOp := [m0 13 6]
def Q27r8 : List GOp := [k0 4 1]
def Q27r9 : List GOp := [m0 14 0, m0 15 1, p0 16 .lss 14 15]
def Q27r10 : List GOp := [k0 4 (-1)]
def Q27r11 : List GOp := [m0 17 0, m0 18 1, p0 19 .gtr 17 18]
def Q27r12 : List GOp := [k0 4 1]
def Q27r13 : List GOp := [k0 4 0]
def Q27b : AC := (.seq (.ops Q27r0) (.seq (.ops Q27r1) (.seq (.ops Q27r2) (.seq (.seq (.ops Q27r3) (.cond (.tmp 11) (.seq (.seq (.ops Q27r4) (.cond (.tmp 12) (.seq (.ops Q27r5) (.keep [] [(4, false)] [] [] [] .ret)) .skip)) (.seq (.ops Q27r6) (.keep [] [(4, false)] [] [] [] .ret))) .skip)) (.seq (.seq (.ops Q27r7) (.cond (.tmp 13) (.seq (.ops Q27r8) (.keep [] [(4, false)] [] [] [] .ret)) .skip)) (.seq (.seq (.ops Q27r9) (.cond (.tmp 16) (.seq (.ops Q27r10) (.keep [] [(4, false)] [] [] [] .ret)) .skip)) (.seq (.seq (.ops Q27r11) (.cond (.tmp 19) (.seq (.ops Q27r12) (.keep [] [(4, false)] [] [] [] .ret)) .skip)) (.seq (.ops Q27r13) (.keep [] [(4, false)] [] [] [] .ret)))))))))
def Q27 : Fd := ⟨2, [.tmp 4], [], Q27b⟩
theorem Q27_ag : agreeF Tryz.prog Tryz.f137 Q27 = true := by kernel_rfl
theorem cmp_Compare_Account_ok {x1 : Int} {y2 : Int} {r : Int} (h : cmp_Compare_Account x1 y2 = some r) : Contract Tryz.prog 137 [Vi x1, Vi y2] [] ⟨Vi r, [], []⟩ := by
 refine contract_fin hm Tryz.func137 Q27_ag (by kernel_rfl) ?_
 unfold cmp_Compare_Account at h
 refine W.seqOps Aw ?_
 obtain ⟨x3, hx3, h⟩ := bindS h
 refine W.seqOps (Bw 1 (RunR.cons (Tw (cmp_isNaN_Account_ok hx3) tab_nil) (Kw 148 [] (Vb x3) Hw) Aw)) ?_
 obtain ⟨x4, hx4, h⟩ := bindS h
 refine W.seqOps (Bw 1 (RunR.cons (Tw (cmp_isNaN_Account_ok hx4) tab_nil) (Kw 148 [] (Vb x4) Hw) Aw)) ?_
 refine W.assoc ?_
 refine W.seqOps Aw ?_
 refine W.seqCond (t := x3) (by kernel_rfl) h (fun hc h' => ?_) (fun hc h' => ?_)
 ·replace h := h'
  refine W.assoc ?_
  refine W.assoc ?_
  refine W.seqOps Aw ?_
  refine W.seqCond (t := x4) (by kernel_rfl) h (fun hc h' => ?_) (fun hc h' => ?_)
  ·replace h := h'
   refine W.assoc ?_
   refine W.seqOps Aw ?_
   refine W.seqKeep rfl ?_
   cases h
   exact W.seqRet Fw
  ·replace h := h'
   refine W.seqSkip ?_
   refine W.assoc ?_
   refine W.seqOps Aw ?_
   refine W.seqKeep rfl ?_
   cases h
   exact W.seqRet Fw
 ·replace h := h'
  refine W.seqSkip ?_
  refine W.assoc ?_
  refine W.seqOps Aw ?_
  refine W.seqCond (t := x4) (by kernel_rfl) h (fun hc h' => ?_) (fun hc h' => ?_)
  ·replace h := h'
   refine W.assoc ?_
   refine W.seqOps Aw ?_
   refine W.seqKeep rfl ?_
   cases h
   exact W.seqRet Fw
  ·replace h := h'
   refine W.seqSkip ?_
   refine W.assoc ?_
   refine W.seqOps Aw ?_
   refine W.seqCond (t := decide (x1 < y2)) (by kernel_rfl) h (fun hc h' => ?_) (fun hc h' => ?_)
   ·replace h := h'
    refine W.assoc ?_
    refine W.seqOps Aw ?_
    refine W.seqKeep rfl ?_
    cases h
    exact W.seqRet Fw
   ·replace h := h'
    refine W.seqSkip ?_
    refine W.assoc ?_
    refine W.seqOps Aw ?_
    refine W.seqCond (t := decide (x1 > y2)) (by kernel_rfl) h (fun hc h' => ?_) (fun hc h' => ?_)
    ·replace h := h'
     refine W.assoc ?_
     refine W.seqOps Aw ?_
     refine W.seqKeep rfl ?_
     cases h
     exact W.seqRet Fw
    ·replace h := h'
     refine W.seqSkip ?_
     refine W.seqOps Aw ?_
     refine W.keep rfl ?_
     cases h
     exact W.ret Fw
def Q12r0 : List GOp := [o0 3 (.box (.tmp 0)), k0 5 0]
def Q12r1 : List GOp := [l0 6 1 2, t0 7 8 3, o0 8 (.call 0 0 (.tmp 6) [(.tmp 7)] [] []), m0 9 1, o0 10 (.call 0 0 (.cst (.fn 137)) [(.tmp 8), (.tmp 9)] [] []), m0 5 10]
def Q12b : AC := (.seq (.ops Q12r0) (.seq (.ops Q12r1) (.keep [] [(5, false)] [(.ext 0, false)] [.loc 3 0] [] .ret)))
def Q12 : Fd := ⟨3, [.tmp 5], [], Q12b⟩
theorem Q12_ag : agreeF Tryz.prog Tryz.f136 Q12 = true := by kernel_rfl
theorem chart_place_Record_Account_1_ok {x1 : T_api_Record} {n2 : Int} {r : Int} (h : chart_place_Record_Account_1 x1 n2 = some r) : Contract Tryz.prog 136 [.pv (T_api_Record.pv x1), Vi n2, .ptr (.ext 0) 0] [.box [.pv (.fn 75)]] ⟨Vi r, [], [(some (.box [.pv (.fn 75)]))]⟩ := by
 refine contract_fin hm Tryz.func136 Q12_ag (by kernel_rfl) ?_
 unfold chart_place_Record_Account_1 at h
 refine W.seqOps Aw ?_
 obtain ⟨x3, hx3, h⟩ := bindS h
 obtain ⟨x4, hx4, h⟩ := bindS h
 refine W.seqOps (Bw 2 (RunR.cons (Tw (chart_accOf_ok hx3) tab_nil) (Kw 75 [] (Vi x3) Hw) (Bw 1 (RunR.cons (Tw (cmp_Compare_Account_ok hx4) tab_nil) (Kw 137 [] (Vi x4) Hw) Aw)))) ?_
 refine W.keep rfl ?_
 cases h
 exact W.ret Fw
end Go.Av.G
end
