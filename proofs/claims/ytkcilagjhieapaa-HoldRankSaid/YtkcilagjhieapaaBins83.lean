/- slices.Insert of one element into a row of its own: the machine's (printed by mkins.py from one text). -/
import Derived.Test.YtkcilagjhieapaaBins
set_option linter.unusedVariables false
set_option linter.unusedSimpArgs false
namespace Go.Av
open Go Go.Proofs Go.Shelf Go.RowKit Go.Lib

set_option maxHeartbeats 8000000 in
set_option maxRecDepth 100000 in
theorem ins83_shift (w : World) (b vb n c i vc : Nat) (cur vcur : Array Value) (T T2 : TypeId) (hg : w.heap[b]? = some (.cells cur T (0, 0))) (hv : w.heap[vb]? = some (.cells vcur T2 (0, 0))) (hne : vb ≠ b)
    (hs : cur.size = c * 9) (hvs : 9 ≤ vcur.size) (hi : i < n) (hroom : n + 1 ≤ c) (hc83 : n + 1 ≤ 9223372036854775807) (h1c : ∀ v ∈ cur.toList.take (n * 9), v.oneCell' = true) (h1v : ∀ v ∈ vcur.toList.take 9, v.oneCell' = true) :
    Calls Try.prog 83 #[.slice (some ⟨b, 0, none⟩) n c, .int .i64 i, .slice (some ⟨vb, 0, none⟩) 1 vc] w fun e w' =>
      e = .returned (.slice (some ⟨b, 0, none⟩) (n + 1) c) ∧ ∃ W, W.heap = w.heap ∧ Quiet w W ∧ w' = W.setRow b (cur.toList.take (i * 9) ++ vcur.toList.take 9 ++ (cur.toList.drop (i * 9)).take ((n - i) * 9) ++ cur.toList.drop ((n + 1) * 9)).toArray := by
  have hz2 : ¬ ((i : Int) = (n : Int)) := by omega
  have hov : ∀ lb cb, (callFunc 112 #[.slice (some ⟨vb, 0, none⟩) 1 vc, .slice (some ⟨b, (i + 1) * 9, none⟩) lb cb]).run Try.prog w = .ok (.value (.bool false)) w := fun lb cb => by
    rw [run_callFunc_extern Try.func112 (by kernel_rfl) (by kernel_rfl) (by kernel_rfl) (e := Extern.SlicesOverlaps.overlaps #[73, 73] #[4]) (by kernel_rfl),
      Lib.run_overlaps_apart w 73 4 77 Try.underlying73 9 Try.sizeOf77 ⟨vb, 0, none⟩ ⟨b, (i + 1) * 9, none⟩ 1 vc lb cb hne T2 T vcur.size cur.size (by simp [World.shape?, hv]) (by simp [World.shape?, hg]) (by omega) (by simp [World.frozen?, hv]) (by simp [World.frozen?, hv])]
    rfl
  have hsz8 : ((Try.prog.info? 77).getD default).size = 9 := by kernel_rfl
  obtain ⟨src, hsrc⟩ : ∃ src : List Value, src = (cur.toList.drop (i * 9)).take ((n - i) * 9) := ⟨_, rfl⟩
  obtain ⟨A1, hA1⟩ : ∃ A : Array Value, A = (cur.toList.take ((i + 1) * 9) ++ src ++ cur.toList.drop ((i + 1) * 9 + src.length)).toArray := ⟨_, rfl⟩
  have hsl : src.length = (n - i) * 9 := by rw [hsrc]; simp; omega
  have hcp1 : ∀ ty dc sc, (Builtin.copy_ #[73, 73] ty #[.slice (some ⟨b, (i + 1) * 9, none⟩) (n - i) dc, .slice (some ⟨b, i * 9, none⟩) (n + 1 - i) sc]).run Try.prog w.drew = .ok (goInt (n - i : Nat)) (w.drew.setRow b A1) := fun ty dc sc => by
    rw [hA1]
    exact run_copy_rowN w.drew 73 73 ty 77 _ b ((i + 1) * 9) _ _ ⟨b, i * 9, none⟩ _ _ (n - i) cur T src Try.underlying73 (show Try.prog.info? 77 = some ((Try.prog.info? 77).getD default) by kernel_rfl) hg (by simp only [Nat.min_def]; split <;> omega) (by rw [hsl]; congr 1) (fun j v hj => by
      rw [Addr.add_lit]
      rw [hsrc, List.getElem?_take] at hj
      split at hj
      · rw [List.getElem?_drop] at hj
        show World.cell? w _ = _
        simp only [World.cell?, hg]
        simpa using hj
      · cases hj) (by rw [hsl]; omega) (fun v hv => by rw [hsrc] at hv; exact h1c v (drop_take_mem (by omega) hv))
  have hw1 : IntKind.i64.wrap ((i : Int) + 1) = (i : Int) + 1 := by rw [IntKind.wrap_i64]; omega
  have hb1 : (0 : Int) ≤ (i : Int) + 1 := by omega
  have hin : i ≤ n := by omega
  have htn : ((i : Int) + 1).toNat = i + 1 := by omega
  have hb2 : ¬ (c = i + 1) := by omega
  have hb3 : (i : Int) ≤ (n : Int) + 1 := by omega
  have hb4 : ¬ (c = i) := by omega
  have hA1s : A1.size = cur.size := by rw [hA1]; simp [hsl]; omega
  obtain ⟨A2, hA2⟩ : ∃ A : Array Value, A = (A1.toList.take (i * 9) ++ vcur.toList.take 9 ++ A1.toList.drop (i * 9 + (vcur.toList.take 9).length)).toArray := ⟨_, rfl⟩
  have hcp2 : ∀ W : World, W.heap = (w.setRow b A1).heap → ∀ ty dc sc, (Builtin.copy_ #[73, 73] ty #[.slice (some ⟨b, i * 9, none⟩) (n + 1 - i) dc, .slice (some ⟨vb, 0, none⟩) 1 sc]).run Try.prog W = .ok (goInt (1 : Nat)) (W.setRow b A2) := fun W hW ty dc sc => by
    rw [hA2]
    exact run_copy_rowN W 73 73 ty 77 _ b (i * 9) _ _ ⟨vb, 0, none⟩ _ _ 1 A1 T (vcur.toList.take 9) Try.underlying73 (show Try.prog.info? 77 = some ((Try.prog.info? 77).getD default) by kernel_rfl) (by rw [hW]; exact setRow_heap w b cur A1 T _ hg) (by simp only [Nat.min_def]; split <;> omega) (by rw [hsz8]; simp; omega) (fun j v hj => by
      rw [Addr.add_lit]
      rw [List.getElem?_take] at hj
      split at hj
      · simp only [World.cell?, hW, World.setRow, Array.getElem?_modify, if_neg (Ne.symm hne), hv]
        simpa using hj
      · cases hj) (by simp; omega) h1v
  have hfin : Hid (A2 = (cur.toList.take (i * 9) ++ vcur.toList.take 9 ++ (cur.toList.drop (i * 9)).take ((n - i) * 9) ++ cur.toList.drop ((n + 1) * 9)).toArray) := by
    show A2 = _
    rw [hA2, hA1]
    have e1 : (i + 1) * 9 = i * 9 + 9 := by omega
    rw [e1]
    have := ins_list cur.toList (vcur.toList.take 9) src (i * 9) 9 ((n + 1) * 9) (by simp; omega) (by simp; omega) (by rw [hsl]; omega)
    simp only [List.append_assoc] at this ⊢
    rw [this, hsrc]
  clear hA1 hsrc hsl hA2
  have mixed : Try.prog.follows .mixedOrders = true := by kernel_rfl
  go_enter Try.func83, Try.ntmps83
  go_wp2_with (simp only [hov])
  go_region_law_o (refine step_copy_runI rfl _ _ 73 73 rfl _ _ (by simp [Act.eval, Act.put]) (by simp [Act.eval, Act.put]) (hcp1 _ _ _) ?_)
  go_wp2_with (at_builtin; refine wpList_copy_runI _ rfl _ _ 73 73 rfl _ _ rfl rfl (hcp2 (w.drew.setRow b A1) rfl _ _ _) ?_)
  rw [hcp2 (w.drew.setRow b A1) rfl]
  go_wp2
  go_ret
  refine ⟨rfl, w.drew, rfl, ⟨rfl, rfl, rfl⟩, ?_⟩
  rw [← hfin.out]
  exact setRow_setRow _ _ _ _

set_option maxHeartbeats 8000000 in
set_option maxRecDepth 100000 in
theorem ins83_room (w : World) (b vb n c vc : Nat) (cur vcur : Array Value) (T T2 : TypeId) (hg : w.heap[b]? = some (.cells cur T (0, 0))) (hv : w.heap[vb]? = some (.cells vcur T2 (0, 0)))
    (hs : cur.size = c * 9) (hvs : 9 ≤ vcur.size) (hroom : n + 1 ≤ c) (hc83 : n + 1 ≤ 9223372036854775807) (h1v : ∀ v ∈ vcur.toList.take 9, v.oneCell' = true) :
    Calls Try.prog 83 #[.slice (some ⟨b, 0, none⟩) n c, .int .i64 n, .slice (some ⟨vb, 0, none⟩) 1 vc] w fun e w' =>
      e = .returned (.slice (some ⟨b, 0, none⟩) (n + 1) c) ∧ w' = w.setRow b (cur.toList.take (n * 9) ++ vcur.toList.take 9 ++ cur.toList.drop ((n + 1) * 9)).toArray := by
  have hsz8 : ((Try.prog.info? 77).getD default).size = 9 := by kernel_rfl
  have hl8 : (vcur.toList.take 9).length = 9 := by simp; omega
  obtain ⟨A, hA⟩ : ∃ A : Array Value, Hid (A = (cur.toList.take (n * 9) ++ vcur.toList.take 9 ++ cur.toList.drop ((n + 1) * 9)).toArray) := ⟨_, show _ = _ from rfl⟩
  have hap : ∀ ty, (Builtin.append_ #[73, 73] ty #[.slice (some ⟨b, 0, none⟩) n c, .slice (some ⟨vb, 0, none⟩) 1 vc]).run Try.prog w = .ok (.slice (some ⟨b, 0, none⟩) (n + 1) c) (w.setRow b A) := fun ty => by
    rw [hA.out]
    have h := run_append_room' (P := Try.prog) (w := w) 73 ty 77 T ((Try.prog.info? 77).getD default) Try.underlying73 (by kernel_rfl) b n c cur hg (some ⟨vb, 0, none⟩) 1 vc (vcur.toList.take 9) (by rw [hsz8, hl8]) (fun _ => ⟨_, rfl, fun j v hj => by
      rw [Addr.add_lit]
      rw [List.getElem?_take] at hj
      split at hj
      · simp only [World.cell?, hv]
        simpa using hj
      · cases hj⟩) h1v hroom (by rw [hsz8, hl8, hs]; omega)
    rw [hsz8, hl8] at h
    rw [h, show n * 9 + 9 = (n + 1) * 9 by omega]
  go_enter Try.func83, Try.ntmps83
  go_wp2_with (at_builtin; refine Lib.wpList_append_run _ rfl _ _ _ _ rfl _ _ rfl rfl _ _ (hap _) ?_)
  go_ret
  exact ⟨rfl, by rw [hA.out]⟩

set_option maxHeartbeats 8000000 in
set_option maxRecDepth 100000 in
theorem ins83_end (w : World) (b vb n c vc : Nat) (cur vcur : Array Value) (T T2 : TypeId) (hg : w.heap[b]? = some (.cells cur T (0, 0))) (hv : w.heap[vb]? = some (.cells vcur T2 (0, 0)))
    (hs : cur.size = c * 9) (hvs : 9 ≤ vcur.size) (hnc : n ≤ c) (hroom : c < n + 1) (hbig : (n + 1) * 64 ≤ 140737488355328) (h1v : ∀ v ∈ vcur.toList.take 9, v.oneCell' = true) :
    Calls Try.prog 83 #[.slice (some ⟨b, 0, none⟩) n c, .int .i64 n, .slice (some ⟨vb, 0, none⟩) 1 vc] w fun e w' =>
      ∃ G zs, n + 1 ≤ G ∧ zs.length = (G - (n + 1)) * 9 ∧ e = .returned (.slice (some ⟨w.heap.size, 0, none⟩) (n + 1) G) ∧ w' = w.drew.alloc (.cells (cur.toList.take (n * 9) ++ vcur.toList.take 9 ++ zs).toArray 77) := by
  have hsz8 : ((Try.prog.info? 77).getD default).size = 9 := by kernel_rfl
  have hby : ((Try.prog.info? 77).getD default).bytes = 64 := by kernel_rfl
  have hl8 : (vcur.toList.take 9).length = 9 := by simp; omega
  have hsrc : Src Try.prog ((Try.prog.info? 77).getD default).size 73 (.slice (some ⟨vb, 0, none⟩) 1 vc) 1 (vcur.toList.take 9) w := Src.ofSlice w Try.underlying73 ⟨vb, 0, none⟩ 1 vc (vcur.toList.take 9) (by rw [hsz8, hl8]) (fun j u hj => by
      rw [Addr.add_lit]
      rw [List.getElem?_take] at hj
      split at hj
      · simp only [World.cell?, hv]
        simpa using hj
      · cases hj) h1v
  have hold : (Builtin.firstCells ((Try.prog.info? 77).getD default).size n (.slice (some ⟨b, 0, none⟩) n c)).run Try.prog w.drew = .ok (cur.toList.take (n * 9)).toArray w.drew := by
    exact run_firstCells_some w.drew _ n ⟨b, 0, none⟩ n c (cur.toList.take (n * 9)) (by rw [hsz8]; simp; omega) (fun j v hj => by
      rw [Addr.add_lit]
      rw [List.getElem?_take] at hj
      split at hj
      · show World.cell? w _ = _
        simp only [World.cell?, hg]
        simpa using hj
      · cases hj)
  obtain ⟨z, hz⟩ : ∃ z, ((Try.prog.info? 77).getD default).zero = some z := ⟨_, show _ = some ((((Try.prog.info? 77).getD default).zero).getD undef) by kernel_rfl⟩
  have hzs : Hid (z.cells.size = 9) := by
    have h : (((Try.prog.info? 77).getD default).zero).getD undef = z := by rw [hz]; rfl
    show _ = _
    rw [← h]
    kernel_rfl
  obtain ⟨G, hG⟩ : ∃ G, G = grownCap w (n + 1) c 77 := ⟨_, rfl⟩
  obtain ⟨zs, hzs'⟩ : ∃ zs : List Value, zs = (Builtin.zeroCells z.cells (G - (n + 1))).toList := ⟨_, rfl⟩
  obtain ⟨arr, harr⟩ : ∃ arr : Array Value, Hid (arr = (cur.toList.take (n * 9) ++ vcur.toList.take 9 ++ zs).toArray) := ⟨_, show _ = _ from rfl⟩
  have hGn : n + 1 ≤ G := by rw [hG]; exact grownCap_ge w _ _ _
  have hzl : zs.length = (G - (n + 1)) * 9 := by rw [hzs', Array.length_toList, size_zeroCells, hzs.out]
  have hrun : ∀ ty, (Builtin.append_ #[73, 73] ty #[.slice (some ⟨b, 0, none⟩) n c, .slice (some ⟨vb, 0, none⟩) 1 vc]).run Try.prog w = .ok (.slice (some ⟨w.heap.size, 0, none⟩) (n + 1) G) (w.drew.alloc (.cells arr 77)) := fun ty => by
    rw [run_append_grow_src w 73 73 ty 77 ((Try.prog.info? 77).getD default) z Try.underlying73 (by kernel_rfl) hz (some ⟨b, 0, none⟩) n c _ hold _ 1 _ hsrc hroom (by omega) (by rw [hby]; exact growslice_fits hroom hbig), harr.out, hzs', hG]
    congr 4
    apply Array.toList_inj.1
    simp
  clear hzs' hG hz hold hsrc hzs
  go_enter Try.func83, Try.ntmps83
  go_wp2_with (at_builtin; refine Lib.wpList_append_run _ rfl _ _ _ _ rfl _ _ rfl rfl _ _ (hrun _) ?_)
  all_goals (go_ret; exact ⟨G, zs, hGn, hzl, rfl, by rw [← harr.out]; rfl⟩)

set_option maxHeartbeats 8000000 in
set_option maxRecDepth 100000 in
theorem ins83_nil (w : World) (ax : Option Addr) (vb vc : Nat) (vcur : Array Value) (T2 : TypeId) (hv : w.heap[vb]? = some (.cells vcur T2 (0, 0)))
    (hvs : 9 ≤ vcur.size) (hbig : 64 ≤ 140737488355328) (h1v : ∀ v ∈ vcur.toList.take 9, v.oneCell' = true) :
    Calls Try.prog 83 #[.slice ax 0 0, .int .i64 0, .slice (some ⟨vb, 0, none⟩) 1 vc] w fun e w' =>
      ∃ G zs, 1 ≤ G ∧ zs.length = (G - 1) * 9 ∧ e = .returned (.slice (some ⟨w.heap.size, 0, none⟩) 1 G) ∧ w' = w.drew.alloc (.cells (vcur.toList.take 9 ++ zs).toArray 77) := by
  have hsz8 : ((Try.prog.info? 77).getD default).size = 9 := by kernel_rfl
  have hby : ((Try.prog.info? 77).getD default).bytes = 64 := by kernel_rfl
  have hl8 : (vcur.toList.take 9).length = 9 := by simp; omega
  have hsrc : Src Try.prog ((Try.prog.info? 77).getD default).size 73 (.slice (some ⟨vb, 0, none⟩) 1 vc) 1 (vcur.toList.take 9) w := Src.ofSlice w Try.underlying73 ⟨vb, 0, none⟩ 1 vc (vcur.toList.take 9) (by rw [hsz8, hl8]) (fun j u hj => by
      rw [Addr.add_lit]
      rw [List.getElem?_take] at hj
      split at hj
      · simp only [World.cell?, hv]
        simpa using hj
      · cases hj) h1v
  have hold : (Builtin.firstCells ((Try.prog.info? 77).getD default).size 0 (.slice ax 0 0)).run Try.prog w.drew = .ok ([] : List Value).toArray w.drew := by
    cases ax with
    | none => rfl
    | some a => exact run_firstCells_some w.drew _ 0 a 0 0 [] (by simp) (fun j v hj => by simp at hj)
  obtain ⟨z, hz⟩ : ∃ z, ((Try.prog.info? 77).getD default).zero = some z := ⟨_, show _ = some ((((Try.prog.info? 77).getD default).zero).getD undef) by kernel_rfl⟩
  have hzs : Hid (z.cells.size = 9) := by
    have h : (((Try.prog.info? 77).getD default).zero).getD undef = z := by rw [hz]; rfl
    show _ = _
    rw [← h]
    kernel_rfl
  obtain ⟨G, hG⟩ : ∃ G, G = grownCap w (0 + 1) 0 77 := ⟨_, rfl⟩
  obtain ⟨zs, hzs'⟩ : ∃ zs : List Value, zs = (Builtin.zeroCells z.cells (G - (0 + 1))).toList := ⟨_, rfl⟩
  obtain ⟨arr, harr⟩ : ∃ arr : Array Value, Hid (arr = (vcur.toList.take 9 ++ zs).toArray) := ⟨_, show _ = _ from rfl⟩
  have hGn : 1 ≤ G := by rw [hG]; exact grownCap_ge w _ _ _
  have hzl : zs.length = (G - 1) * 9 := by rw [hzs', Array.length_toList, size_zeroCells, hzs.out]
  have hrun : ∀ ty, (Builtin.append_ #[73, 73] ty #[.slice ax 0 0, .slice (some ⟨vb, 0, none⟩) 1 vc]).run Try.prog w = .ok (.slice (some ⟨w.heap.size, 0, none⟩) 1 G) (w.drew.alloc (.cells arr 77)) := fun ty => by
    have hroom : 0 < 0 + 1 := by omega
    rw [run_append_grow_src w 73 73 ty 77 ((Try.prog.info? 77).getD default) z Try.underlying73 (by kernel_rfl) hz ax 0 0 _ hold _ 1 _ hsrc hroom (by omega) (by rw [hby]; exact growslice_fits hroom (by omega)), harr.out, hzs', hG]
    congr 4
    apply Array.toList_inj.1
    simp
  clear hzs' hG hz hold hsrc hzs
  cases ax with
  | none =>
    go_enter Try.func83, Try.ntmps83
    go_wp2_with (at_builtin; refine Lib.wpList_append_run _ rfl _ _ _ _ rfl _ _ rfl rfl _ _ (hrun _) ?_)
    all_goals (go_ret; exact ⟨G, zs, hGn, hzl, rfl, by rw [← harr.out]; rfl⟩)
  | some a =>
    go_enter Try.func83, Try.ntmps83
    go_wp2_with (at_builtin; refine Lib.wpList_append_run _ rfl _ _ _ _ rfl _ _ rfl rfl _ _ (hrun _) ?_)
    all_goals (go_ret; exact ⟨G, zs, hGn, hzl, rfl, by rw [← harr.out]; rfl⟩)

set_option maxHeartbeats 8000000 in
set_option maxRecDepth 100000 in
theorem ins83_grow (w : World) (b vb n c i vc : Nat) (cur vcur : Array Value) (T T2 : TypeId) (hg : w.heap[b]? = some (.cells cur T (0, 0))) (hv : w.heap[vb]? = some (.cells vcur T2 (0, 0)))
    (hs : cur.size = c * 9) (hvs : 9 ≤ vcur.size) (hi : i < n) (hnc : n ≤ c) (hroom : c < n + 1) (hbig : (n + 1) * 64 ≤ 140737488355328) (h1c : ∀ v ∈ cur.toList.take (n * 9), v.oneCell' = true) (h1v : ∀ v ∈ vcur.toList.take 9, v.oneCell' = true) :
    Calls Try.prog 83 #[.slice (some ⟨b, 0, none⟩) n c, .int .i64 i, .slice (some ⟨vb, 0, none⟩) 1 vc] w fun e w' =>
      ∃ G zs W, n + 1 ≤ G ∧ zs.length = (G - (n + 1)) * 9 ∧ e = .returned (.slice (some ⟨w.heap.size, 0, none⟩) (n + 1) G) ∧ W.heap = w.heap ∧ Quiet w W ∧ w' = W.alloc (.cells (cur.toList.take (i * 9) ++ vcur.toList.take 9 ++ (cur.toList.drop (i * 9)).take ((n - i) * 9) ++ zs).toArray 77) := by
  have hsz8 : ((Try.prog.info? 77).getD default).size = 9 := by kernel_rfl
  have hby : ((Try.prog.info? 77).getD default).bytes = 64 := by kernel_rfl
  have hi32 : Try.prog.info? 77 = some ((Try.prog.info? 77).getD default) := by kernel_rfl
  have hl8 : (vcur.toList.take 9).length = 9 := by simp; omega
  have hbw : b < w.heap.size := (Array.getElem?_eq_some_iff.1 hg).1
  have hvw : vb < w.heap.size := (Array.getElem?_eq_some_iff.1 hv).1
  have hz2 : ¬ ((i : Int) = (n : Int)) := by omega
  have hz3 : (c : Int) < (n : Int) + 1 := by omega
  have hold : (Builtin.firstCells ((Try.prog.info? 77).getD default).size i (.slice (some ⟨b, 0, none⟩) i c)).run Try.prog w.drew = .ok (cur.toList.take (i * 9)).toArray w.drew := by
    exact run_firstCells_some w.drew _ i ⟨b, 0, none⟩ i c (cur.toList.take (i * 9)) (by rw [hsz8]; simp; omega) (fun j v hj => by
      rw [Addr.add_lit]
      rw [List.getElem?_take] at hj
      split at hj
      · show World.cell? w _ = _
        simp only [World.cell?, hg]
        simpa using hj
      · cases hj)
  obtain ⟨z, hz⟩ : ∃ z, ((Try.prog.info? 77).getD default).zero = some z := ⟨_, show _ = some ((((Try.prog.info? 77).getD default).zero).getD undef) by kernel_rfl⟩
  have hzs : Hid (z.cells.size = 9) := by
    have h : (((Try.prog.info? 77).getD default).zero).getD undef = z := by rw [hz]; rfl
    show _ = _
    rw [← h]
    kernel_rfl
  obtain ⟨G, hG⟩ : ∃ G, G = grownCap w (n + 1) c 77 := ⟨_, rfl⟩
  have hGn : n + 1 ≤ G := by rw [hG]; exact grownCap_ge w _ _ _
  obtain ⟨zs, hzs'⟩ : ∃ zs : List Value, zs = (Builtin.zeroCells z.cells (G - (n + 1))).toList := ⟨_, rfl⟩
  have hzl : zs.length = (G - (n + 1)) * 9 := by rw [hzs', Array.length_toList, size_zeroCells, hzs.out]
  obtain ⟨ms, hms'⟩ : ∃ zs : List Value, zs = (Builtin.zeroCells z.cells (n + 1 - i)).toList := ⟨_, rfl⟩
  have hml : ms.length = (n + 1 - i) * 9 := by rw [hms', Array.length_toList, size_zeroCells, hzs.out]
  obtain ⟨A0, hA0⟩ : ∃ A : Array Value, A = (cur.toList.take (i * 9) ++ ms ++ zs).toArray := ⟨_, rfl⟩
  have hkk : (n : Int) + 1 - (i : Int) = ((n + 1 - i : Nat) : Int) := by omega
  have hik : i + (n + 1 - i) = n + 1 := by omega
  have hrz : ∀ ty, (Builtin.append_ #[73, 3] ty #[.slice (some ⟨b, 0, none⟩) i c, .int .i64 ((n : Int) + 1 - (i : Int))]).run Try.prog w = .ok (.slice (some ⟨w.heap.size, 0, none⟩) (n + 1) G) (w.drew.alloc (.cells A0 77)) := fun ty => by
    have h := Lib.run_append_grow_zeros w 73 3 ty 77 ((Try.prog.info? 77).getD default) z .i64 .i64 Try.underlying73 Try.underlying3 hi32 hz (some ⟨b, 0, none⟩) i c (cur.toList.take (i * 9)) hold (n + 1 - i) (by omega) (by rw [hsz8]; omega) (by omega) (by omega) (by rw [hby]; omega) (by rw [hby, hik]; exact growslice_fits hroom hbig)
    rw [hik, ← hG] at h
    rw [hkk, h, hA0, hzs', hms']
    congr 4
    apply Array.toList_inj.1
    simp
  obtain ⟨src, hsrc⟩ : ∃ src : List Value, src = (cur.toList.drop (i * 9)).take ((n - i) * 9) := ⟨_, rfl⟩
  have hsl : src.length = (n - i) * 9 := by rw [hsrc]; simp; omega
  have hA0s : A0.size = i * 9 + (n + 1 - i) * 9 + (G - (n + 1)) * 9 := by rw [hA0]; simp [hml, hzl]; omega
  obtain ⟨A1, hA1⟩ : ∃ A : Array Value, A = (A0.toList.take (i * 9) ++ vcur.toList.take 9 ++ A0.toList.drop (i * 9 + (vcur.toList.take 9).length)).toArray := ⟨_, rfl⟩
  have hA1s : A1.size = A0.size := by rw [hA1]; simp [hl8]; omega
  obtain ⟨A2, hA2⟩ : ∃ A : Array Value, A = (A1.toList.take ((i + 1) * 9) ++ src ++ A1.toList.drop ((i + 1) * 9 + src.length)).toArray := ⟨_, rfl⟩
  have hcpA : ∀ W : World, W.heap = (w.drew.alloc (.cells A0 77)).heap → ∀ ty dc sc, (Builtin.copy_ #[73, 73] ty #[.slice (some ⟨w.heap.size, i * 9, none⟩) (n + 1 - i) dc, .slice (some ⟨vb, 0, none⟩) 1 sc]).run Try.prog W = .ok (goInt (1 : Nat)) (W.setRow w.heap.size A1) := fun W hW ty dc sc => by
    rw [hA1]
    exact run_copy_rowN W 73 73 ty 77 _ w.heap.size (i * 9) _ _ ⟨vb, 0, none⟩ _ _ 1 A0 77 (vcur.toList.take 9) Try.underlying73 hi32 (by rw [hW]; exact heap_alloc_new w.drew _) (by simp only [Nat.min_def]; split <;> omega) (by rw [hsz8, hl8]) (fun j v hj => by
      rw [Addr.add_lit]
      rw [List.getElem?_take] at hj
      split at hj
      · have : W.heap[vb]? = w.heap[vb]? := by rw [hW]; exact heap_alloc_old (w := w.drew) _ hvw
        simp only [World.cell?, this, hv]
        simpa using hj
      · cases hj) (by rw [hl8, hA0s]; omega) h1v
  have hcpB : ∀ W : World, W.heap = ((w.drew.alloc (.cells A0 77)).setRow w.heap.size A1).heap → ∀ ty dc sc, (Builtin.copy_ #[73, 73] ty #[.slice (some ⟨w.heap.size, (i + 1) * 9, none⟩) (n - i) dc, .slice (some ⟨b, i * 9, none⟩) (n - i) sc]).run Try.prog W = .ok (goInt (n - i : Nat)) (W.setRow w.heap.size A2) := fun W hW ty dc sc => by
    rw [hA2]
    exact run_copy_rowN W 73 73 ty 77 _ w.heap.size ((i + 1) * 9) _ _ ⟨b, i * 9, none⟩ _ _ (n - i) A1 77 src Try.underlying73 hi32 (by rw [hW]; exact setRow_heap (w.drew.alloc (.cells A0 77)) w.heap.size A0 A1 77 _ (heap_alloc_new w.drew _)) (by simp only [Nat.min_def]; split <;> omega) (by rw [hsz8, hsl]) (fun j v hj => by
      rw [Addr.add_lit]
      rw [hsrc, List.getElem?_take] at hj
      split at hj
      · rw [List.getElem?_drop] at hj
        have : W.heap[b]? = w.heap[b]? := by
          rw [hW]
          have hne' : ¬ w.heap.size = b := by omega
          simp only [World.setRow, Array.getElem?_modify, if_neg hne']
          exact heap_alloc_old (w := w.drew) _ hbw
        simp only [World.cell?, this, hg]
        simpa using hj
      · cases hj) (by rw [hA1s, hA0s, hsl]; omega) (fun v hv => by rw [hsrc] at hv; exact h1c v (drop_take_mem (by omega) hv))
  have hfin : Hid (A2 = (cur.toList.take (i * 9) ++ vcur.toList.take 9 ++ (cur.toList.drop (i * 9)).take ((n - i) * 9) ++ zs).toArray) := by
    show A2 = _
    rw [hA2, hA1, hA0, ← hsrc, hl8]
    have e1 : (i + 1) * 9 = i * 9 + 9 := by omega
    rw [e1]
    have := grow_list (cur.toList.take (i * 9)) ms zs (vcur.toList.take 9) src (i * 9) 9 (by simp; omega) hl8 (by rw [hml, hsl]; omega)
    rw [← this]
  have hG83 : G ≤ 9223372036854775807 := by
    have := grownCap_le_maxLen w (n + 1) c 77 (by unfold maxLen; omega)
    rw [← hG] at this
    unfold maxLen at this
    omega
  have hw1 : IntKind.i64.wrap ((i : Int) + 1) = (i : Int) + 1 := by rw [IntKind.wrap_i64]; omega
  have hb1 : (0 : Int) ≤ (i : Int) + 1 := by omega
  have hin : i ≤ n := by omega
  have htn : ((i : Int) + 1).toNat = i + 1 := by omega
  have hb3 : (i : Int) ≤ (n : Int) := by omega
  have hGi : ¬ (G = i) := by omega
  have hGim : ¬ (G = i + 1) := by omega
  have hci : ¬ (c = i) := by omega
  clear hold hz hzs hG hzs' hms' hA0 hkk hik hsrc hsl hA0s hA1 hA1s hA2 hml hl8
  have mixed : Try.prog.follows .mixedOrders = true := by kernel_rfl
  go_enter Try.func83, Try.ntmps83
  go_wp2_with (at_builtin; refine Lib.wpList_append_run _ rfl _ _ _ _ rfl _ _ rfl rfl _ _ (hrz _) ?_)
  rw [hcpA ((w.alloc (.cells A0 77)).drew) rfl]
  go_wp2
  go_region_law_o (refine step_copy_runI rfl _ _ 73 73 rfl (.slice (some ⟨w.heap.size, (i + 1) * 9, none⟩) (n - i) (G - (i + 1))) (.slice (some ⟨b, i * 9, none⟩) (n - i) (c - i)) (by simp [Act.eval, Act.put]) (by simp [Act.eval, Act.put]) (hcpB (((w.alloc (.cells A0 77)).drew.setRow w.heap.size A1).drew) rfl _ _ _) ?_)
  go_wp2
  go_ret
  refine ⟨G, zs, w.drew.drew, hGn, hzl, rfl, rfl, ⟨rfl, rfl, rfl⟩, ?_⟩
  rw [← hfin.out]
  have q1 : (w.alloc (.cells A0 77)).drew.setRow w.heap.size A1 = w.drew.alloc (.cells A1 77) := World.setRow_alloc_new w.drew A0 A1 77
  rw [q1]
  exact World.setRow_alloc_new w.drew.drew A1 A2 77

theorem insC83 : InsC Try.prog 83 9 64 := by
  refine ⟨⟨Try.f83, Try.func83, by kernel_rfl, by kernel_rfl⟩, ?_, ?_⟩
  rotate_left
  · intro w ax vb vc vcur T2 hv hvs hbig h1v
    refine (ins83_nil w ax vb vc vcur T2 hv hvs hbig h1v).mono ?_
    rintro e w' ⟨G, zs, hG, hz, rfl, rfl⟩
    refine ⟨G, _, 77, zs, rfl, heap_alloc_new w.drew _, hG, ?_, ?_, ?_, fun k hk => heap_alloc_old (w := w.drew) _ hk, ⟨rfl, rfl, rfl⟩⟩
    · simp [hz]; omega
    · simp
    · rw [World.size_alloc]; exact Nat.le_succ _
  intro w b vb n c i vc cur vcur T T2 hg hv hne hs hvs hnc hin hbig h1c h1v
  have hbw : b < w.heap.size := (Array.getElem?_eq_some_iff.1 hg).1
  by_cases hroom : n + 1 ≤ c
  · have old : ∀ (W : World) (A : Array Value), W.heap = w.heap → ∀ k, k < w.heap.size → k ≠ b → (W.setRow b A).heap[k]? = w.heap[k]? := by
      intro W A hW k _ hk
      simp only [World.setRow, Array.getElem?_modify, if_neg (Ne.symm hk), hW]
    have new : ∀ (W : World) (A : Array Value), W.heap = w.heap → (W.setRow b A).heap[b]? = some (.cells A T (0, 0)) := by
      intro W A hW
      exact setRow_heap W b cur A T _ (by rw [hW]; exact hg)
    by_cases hi : i < n
    · refine (ins83_shift w b vb n c i vc cur vcur T T2 hg hv hne hs hvs hi hroom (by omega) h1c h1v).mono ?_
      rintro e w' ⟨rfl, W, hW, hq, rfl⟩
      exact ⟨b, c, _, T, _, rfl, new W _ hW, hroom, by simp; omega, rfl, .inl rfl, by rw [size_setRow, hW]; exact Nat.le_refl _, old W _ hW, hq.trans (Quiet.setRow _ _ _)⟩
    · obtain rfl : i = n := by omega
      refine (ins83_room w b vb i c vc cur vcur T T2 hg hv hs hvs hroom (by omega) h1v).mono ?_
      rintro e w' ⟨rfl, rfl⟩
      refine ⟨b, c, _, T, cur.toList.drop ((i + 1) * 9), rfl, new w _ rfl, hroom, by simp; omega, ?_, .inl rfl, by rw [size_setRow]; exact Nat.le_refl _, old w _ rfl, Quiet.setRow _ _ _⟩
      simp
  · have hc : c < n + 1 := by omega
    by_cases hi : i < n
    · refine (ins83_grow w b vb n c i vc cur vcur T T2 hg hv hs hvs hi hnc hc hbig h1c h1v).mono ?_
      rintro e w' ⟨G, zs, W, hG, hz, rfl, hW, hq, rfl⟩
      refine ⟨w.heap.size, G, _, 77, zs, rfl, ?_, hG, ?_, rfl, .inr rfl, ?_, fun k hk _ => ?_, hq.trans (Quiet.alloc _ _)⟩
      · rw [← hW]; exact heap_alloc_new W _
      · simp [hz]; omega
      · rw [World.size_alloc, hW]; exact Nat.le_succ _
      · exact (heap_alloc_old (w := W) _ (by rw [hW]; exact hk)).trans (by rw [hW])
    · obtain rfl : i = n := by omega
      refine (ins83_end w b vb i c vc cur vcur T T2 hg hv hs hvs hnc hc hbig h1v).mono ?_
      rintro e w' ⟨G, zs, hG, hz, rfl, rfl⟩
      refine ⟨w.heap.size, G, _, 77, zs, rfl, heap_alloc_new w.drew _, hG, ?_, ?_, .inr rfl, ?_, fun k hk _ => heap_alloc_old (w := w.drew) _ hk, ⟨rfl, rfl, rfl⟩⟩
      · simp [hz]; omega
      · simp
      · rw [World.size_alloc]; exact Nat.le_succ _

end Go.Av
