/- Rows that are laid. -/
import Derived.Test.YtkcilagjhieapaaBv7
import Derived.IntWalk
set_option linter.unusedVariables false
namespace Go.Av
section
variable {P : Program} {C : Ctx} {β : Key → Blk} {σ : St} {a : Act} {w : World} {o : Oper}

/-- A block is laid that has no name. -/
theorem RR.alloc (h : RR C β σ a w) (ob : Obj) (hq : Quiet w (w.alloc ob) := by exact Quiet.alloc _ _) : RR C β σ a (w.alloc ob) ∧ (∀ b, okB C β σ.look w b → okB C β σ.look (w.alloc ob) b) ∧ okB C β σ.look (w.alloc ob) w.heap.size := by
  have hok : ∀ b, okB C β σ.look w b → okB C β σ.look (w.alloc ob) b := fun b hb => ⟨by have := hb.1; rw [World.size_alloc]; omega, hb.2⟩
  refine ⟨⟨h.tsz, h.dfs, h.inj, ?_, h.lo, h.ext2, ?_, ?_, ?_, h.quiet.trans hq⟩, hok, ?_, ?_⟩
  · intro k o hk
    exact (h.objs k o hk).mono (RR.keeps_alloc ob) hok rfl (fun b hb => heap_alloc_old w ob _ (h.blk_lt hk hb)) (fun k2 o2 _ h2 => ⟨o2, h2, o2.sim_refl, rfl⟩)
  · intro t
    exact (h.slots t).mono (RR.keeps_alloc ob) hok (fun k2 o2 h2 => ⟨o2, h2, o2.sim_refl, rfl⟩)
  · have := h.size; rw [World.size_alloc]; omega
  · intro b hb hx
    have := h.frame b hb hx
    have hs := h.size
    rw [heap_alloc_old w ob b (by omega)]
    exact this
  · rw [World.size_alloc]; omega
  · refine ⟨fun k o hk e => ?_, fun hlt => ?_⟩
    · have := h.blk_lt hk e
      omega
    · have := h.size
      omega

theorem StepOK.bare (h : RR C β σ a w) (hd : ∀ i, o.dst = some i → i < C.nt) (ob : Obj) {x : SV} {v : Value} (hr : (execOp a.eval o).run P w = .ok (.value v) (w.alloc ob))
    (hs : (∀ b, okB C β σ.look w b → okB C β σ.look (w.alloc ob) b) → okB C β σ.look (w.alloc ob) w.heap.size → SLies (w.alloc ob) (okB C β σ.look (w.alloc ob)) β σ.look x v) (hq : Quiet w (w.alloc ob) := by exact Quiet.alloc _ _) :
    StepOK P C ((σ.insAll []).put o.dst x) o a w := by
  intro K hK Q
  obtain ⟨h', h1, h2⟩ := h.alloc ob hq
  exact wp_value' hr (hK β _ _ (h'.put o.dst x v hd (hs h1 h2)))

/-- Parts of a slice literal: side by side, from 0 on. -/
def agreeLit : Nat → List (Nat × Operand) → List Opd → Bool
  | _, [], [] => true
  | i, p :: ps, x :: xs => p.1 == i && agreeO p.2 x && agreeLit (i + 1) ps xs
  | _, _, _ => false

theorem agreeLit_spec : ∀ {ps : List (Nat × Operand)} {xs : List Opd} {i : Nat}, agreeLit i ps xs = true → all2 agreeO (ps.map (·.2)) xs = true ∧ ∀ f : Operand → Value, ps.map (fun p => (p.1, f p.2)) = ((ps.map fun p => f p.2).zipIdx i).map fun x => (x.2, x.1)
  | [], [], _, _ => ⟨rfl, fun _ => rfl⟩
  | [], _ :: _, _, h => by simp [agreeLit] at h
  | _ :: _, [], _, h => by simp [agreeLit] at h
  | p :: ps, x :: xs, i, h => by
    simp only [agreeLit, Bool.and_eq_true, beq_iff_eq] at h
    obtain ⟨⟨h1, h2⟩, h3⟩ := h
    obtain ⟨i1, i2⟩ := agreeLit_spec h3
    refine ⟨by simp [all2, h2, i1], fun f => ?_⟩
    simp only [List.map_cons, List.zipIdx_cons, i2 f, h1]

theorem lit_vals (h : RR C β σ a w) {ps : List (Nat × Operand)} {xs : List Opd} {sz : Nat} {qs : List PV} (hag : agreeLit 0 ps xs = true) (hc : cleanAll (xs.map σ.ev) = some qs) (hsz : allLen sz qs = true) :
    qs.length = (ps.map fun p => a.eval p.2).length ∧ (∀ u ∈ ps.map (fun p => a.eval p.2), u.cells.size = sz) ∧ ∀ (j : Nat) (x : PV) (u : Value), qs[j]? = some x → (ps.map fun p => a.eval p.2)[j]? = some u → Lies w (okB C β σ.look w) x u := by
  obtain ⟨h1, _⟩ := agreeLit_spec hag
  obtain ⟨e1, e2⟩ := h.evs h1
  rw [List.map_map] at e1 e2
  obtain ⟨g1, g2⟩ := cleanAll_lies (vs := xs.map σ.ev) (us := ps.map fun p => a.eval p.2) (by exact e1) (by exact e2) hc
  refine ⟨g1, fun u hu => ?_, g2⟩
  obtain ⟨j, hj⟩ := List.mem_iff_getElem?.1 hu
  have hjl : j < qs.length := by rw [g1]; exact (List.getElem?_eq_some_iff.1 hj).1
  have hL := g2 j qs[j] u (by simp [hjl]) hj
  rw [← (lies_cells hL).1]
  exact allLen_spec hsz _ (List.getElem_mem hjl)

theorem sound_lit (h : RR C β σ a w) (hd : ∀ i, o.dst = some i → i < C.nt) {t e : TypeId} {len sz : Nat} {parts : Array (Nat × Operand)} {xs : List Opd} {keep : Bool} (ho : o.op = .buildSlice t len parts) (ht : P.underlying t = some (.slice e))
    {it : TypeInfo} {z : Value} (hit : P.info? e = some it) (hs : it.size = sz) (hz : it.zero = some z) (h0 : sz ≠ 0) (hlen : len = xs.length) (hne : xs ≠ []) (hsm : len * sz ≤ 2 ^ 24) (hag : agreeLit 0 parts.toList xs = true)
    {qs : List PV} (hc : cleanAll (xs.map σ.ev) = some qs) (hsz : allLen sz qs = true) (k : Key) (hk : ∀ i, k ≠ .ext i) (hn : keep = true → σ.look k = none) :
    StepOK P C (if keep then (σ.insAll [(k, .row sz qs)]).put o.dst (.own k) else (σ.insAll []).put o.dst (.pv (.slice qs))) o a w := by
  obtain ⟨g1, g2, g3⟩ := lit_vals h hag hc hsz
  have hl2 : (parts.toList.map fun p => a.eval p.2).length = xs.length := by
    have := (all2_spec (agreeLit_spec hag).1).1
    simpa using this
  have hne' : parts.toList.map (fun p => a.eval p.2) ≠ [] := fun e => hne (List.eq_nil_of_length_eq_zero (by rw [← hl2, e]; rfl))
  obtain ⟨arr, hr, hasz, ha⟩ := run_lit (P := P) (w := w) ht hit hs hz h0 _ g2 hne' (by rw [hl2, ← hlen]; exact hsm) (parts.map fun (i, x) => (i, a.eval x)) (by
    rw [Array.toList_map]; exact (agreeLit_spec hag).2 a.eval)
  have hrun : (execOp a.eval o).run P w = .ok (.value (.slice (some ⟨w.heap.size, 0, none⟩) qs.length qs.length)) (w.alloc (.cells arr e)) := by
    rw [hl2, ← hlen] at hr
    simp only [execOp, ho, Sem.run_bind, hr, Result.andThen_ok, Sem.run_pure]
    rw [g1, hl2, hlen]
  cases keep with
  | true =>
    have hn' := hn rfl
    rw [if_pos rfl]
    refine StepOK.new h hd k hk hn' _ qs.length (.cells arr e) hrun (fun β' b1 _ hok => row_obj hn' (allLen_spec hsz) g1 g3 arr e _ (Nat.le_refl _) (by rw [hasz, g1]) ha β' hok) (fun β' b2 => ?_)
    have := SLies.own (w := w.alloc (.cells arr e)) (ok := okB C β' (σ.insAll [(k, .row sz qs)]).look (w.alloc (.cells arr e))) (β := β') (lk := (σ.insAll [(k, .row sz qs)]).look) k sz qs w.heap.size (by rw [St.look_ins]; simp) (by rw [b2])
    rw [b2] at this
    exact this
  | false =>
    rw [if_neg (by simp)]
    refine StepOK.bare h hd (.cells arr e) hrun (fun hok hnew => .pv _ _ ?_)
    have hat : ∀ (i j : Nat) (x y : PV), qs[i]? = some x → x.cells[j]? = some y → ∃ u, arr[i * sz + j]? = some u ∧ Lies (w.alloc (.cells arr e)) (okB C β σ.look (w.alloc (.cells arr e))) y u := by
      intro i j x y hx hy
      have hi : i < (parts.toList.map fun p => a.eval p.2).length := by rw [← g1]; exact (List.getElem?_eq_some_iff.1 hx).1
      have hu := List.getElem?_eq_getElem hi
      obtain ⟨c1, c2, c3⟩ := lies_cells (g3 i x _ hx hu)
      have hj : j < x.cells.length := (List.getElem?_eq_some_iff.1 hy).1
      have hj2 := hj
      rw [c1] at hj2
      have hcu := Array.getElem?_eq_getElem hj2
      refine ⟨_, ?_, (c3 j y _ hy hcu).mono (RR.keeps_alloc _) hok⟩
      rw [ha i j hi (by rw [← allLen_spec hsz x (List.mem_of_getElem? hx)]; exact hj), hu]
      exact hcu
    have fine : ∀ x ∈ qs, x.fine := fun x hx => by
      obtain ⟨j, hj⟩ := List.mem_iff_getElem?.1 hx
      have hjl : j < (parts.toList.map fun p => a.eval p.2).length := by rw [← g1]; exact (List.getElem?_eq_some_iff.1 hj).1
      exact (g3 j x _ hj (List.getElem?_eq_getElem hjl)).fine
    have hcell : ∀ j u, arr[j]? = some u → (w.alloc (.cells arr e)).cell? ⟨w.heap.size, j, none⟩ = some u := fun j u hu => by
      simp only [World.cell?, heap_alloc_new]
      simpa using hu
    refine .slice qs _ _ _ sz (fun i j => arr.getD (i * sz + j) undef) rfl (Nat.le_refl _) (allLen_spec hsz) fine ?_ (fun _ => ⟨_, rfl, rfl⟩) ?_
    · intro i j hi hj
      refine ⟨_, rfl, rfl, hnew, ?_⟩
      have hjl : j < qs[i].cells.length := by rw [allLen_spec hsz _ (List.getElem_mem hi)]; exact hj
      obtain ⟨u, hu, _⟩ := hat i j _ _ (List.getElem?_eq_getElem hi) (List.getElem?_eq_getElem hjl)
      rw [Nat.zero_add]
      obtain ⟨hlt, rfl⟩ := Array.getElem?_eq_some_iff.1 hu
      rw [hcell _ _ hu]
      simp [Array.getD, hlt]
    · intro i j x y hx hy
      obtain ⟨u, hu, hL⟩ := hat i j x y hx hy
      obtain ⟨hlt, rfl⟩ := Array.getElem?_eq_some_iff.1 hu
      simpa [Array.getD, hlt] using hL

theorem wrap_i64 {n : Int} (h0 : 0 ≤ n) (h1 : n ≤ 140737488355328) : IntKind.i64.wrap n = n := by
  exact IntWalk.i64_in n (by omega)

/-- 'make([]T, n, c)'. -/
theorem run_mk {t e : TypeId} {it : TypeInfo} {z : Value} {sz : Nat} (ht : P.underlying t = some (.slice e)) (hit : P.info? e = some it) (hz : it.zero = some z) (hs : it.size = sz) (hzs : z.cells.size = sz) (h0 : sz ≠ 0) {n c : Int} (h1 : 0 ≤ n) (h2 : n ≤ c) (h3 : c * it.bytes ≤ 140737488355328) (h4 : c ≤ 140737488355328) :
    ∃ arr : Array Value, (Instr.makeSlice t (.int .i64 n) (.int .i64 c)).run P w = .ok (.slice (some ⟨w.heap.size, 0, none⟩) n.toNat c.toNat) (w.alloc (.cells arr e)) ∧ arr.size = c.toNat * sz ∧ ∀ i j, i < c.toNat → j < sz → arr[i * sz + j]? = z.cells[j]? := by
  subst hs
  by_cases hc : c.toNat * it.size = 0
  · have hc0 : c.toNat = 0 := by rcases Nat.mul_eq_zero.1 hc with h | h
                                 · exact h
                                 · exact absurd h h0
    refine ⟨#[], ?_, by simp [hc], fun i j hi => by omega⟩
    have hb : ¬ (it.bytes : Int) * c > 2 ^ 48 := by rw [Int.mul_comm]; omega
    have hb' : ¬ (it.bytes : Int) * n > 2 ^ 48 := by
      have : (it.bytes : Int) * n ≤ it.bytes * c := Int.mul_le_mul_of_nonneg_left h2 (by omega)
      omega
    have e1 : (decide (n < 0)) = false := by simp; omega
    have e2 : (decide (c < 0)) = false := by simp; omega
    simp only [Instr.makeSlice, Sem.run_bind, run_underlying ht, Result.andThen_ok, asInt, asIntOf, Sem.run_pure, typeInfo, run_program, hit, wrap_i64 h1 (by omega : n ≤ _), wrap_i64 (by omega : 0 ≤ c) h4, decide_eq_false hb, e1, e2, Bool.or_self, Bool.false_or, Bool.or_false, decide_eq_false (by omega : ¬ n > c), Bool.false_eq_true, if_false, run_askRoom, sizeOf, hc, if_true, newRow, run_newObj_alloc]
    rw [show (Array.range 0).map (fun x => (#[] : Array Value)[x % (#[] : Array Value).size]!) = #[] from by apply Array.ext'; simp]
  · have hb : ¬ (it.bytes : Int) * c > 2 ^ 48 := by rw [Int.mul_comm]; omega
    have e1 : (decide (n < 0)) = false := by simp; omega
    have e2 : (decide (c < 0)) = false := by simp; omega
    refine ⟨(Array.range (c.toNat * it.size)).map (z.cells[· % z.cells.size]!), ?_, by simp, fun i j hi hj => ?_⟩
    · simp only [Instr.makeSlice, Sem.run_bind, run_underlying ht, Result.andThen_ok, asInt, asIntOf, Sem.run_pure, typeInfo, run_program, hit, wrap_i64 h1 (by omega : n ≤ _), wrap_i64 (by omega : 0 ≤ c) h4, decide_eq_false hb, e1, e2, Bool.or_self, Bool.false_or, Bool.or_false, decide_eq_false (by omega : ¬ n > c), Bool.false_eq_true, if_false, run_askRoom, sizeOf, hc, zeroValue, hz, newRow, run_newObj_alloc]
    · obtain ⟨r1, r2⟩ := row_cell (i := i) hj
      have hlt : i * it.size + j < c.toNat * it.size := by
        have : (i + 1) * it.size ≤ c.toNat * it.size := Nat.mul_le_mul_right _ hi
        rw [Nat.add_mul] at this; omega
      simp only [Array.getElem?_map, Array.getElem?_range, hlt, if_true, Option.map_some, hzs, r2]
      rw [getElem!_pos z.cells j (by omega)]
      simp [hzs, hj]

theorem sound_mk (h : RR C β σ a w) (hd : ∀ i, o.dst = some i → i < C.nt) {t e : TypeId} {sz bytes : Nat} {zero : PV} {xn xc : Operand} {yn yc : Opd} (ho : o.op = .makeSlice t xn xc) (ht : P.underlying t = some (.slice e)) {it : TypeInfo} {z : Value} (hit : P.info? e = some it) (hs : it.size = sz) (hby : it.bytes = bytes) (hz : it.zero = some z) (h0 : sz ≠ 0)
    (hzl : ∀ (w : World) (ok : Nat → Prop), Lies w ok zero z) (hzc : zero.cells.length = sz) (hn : agreeO xn yn = true) (hc : agreeO xc yc = true) {n c : Int} (en : intOf (σ.ev yn) = some (.i64, n)) (ec : intOf (σ.ev yc) = some (.i64, c)) (h1 : 0 ≤ n) (h2 : n ≤ c) (h3 : c * bytes ≤ 140737488355328) (h4 : c ≤ 140737488355328)
    (k : Key) (hk : ∀ i, k ≠ .ext i) (hnk : σ.look k = none) : StepOK P C ((σ.insAll [(k, .row sz (List.replicate n.toNat zero))]).put o.dst (.own k)) o a w := by
  subst hby
  have hzs : z.cells.size = sz := by rw [← (lies_cells (hzl w (fun _ => True))).1, hzc]
  obtain ⟨arr, hr, has, ha⟩ := run_mk (P := P) (w := w) ht hit hz hs hzs h0 h1 h2 h3 h4
  have e1 := slies_int (h.ev hn) en
  have e2 := slies_int (h.ev hc) ec
  refine StepOK.new h hd k hk hnk _ c.toNat (.cells arr e) (v := .slice (some ⟨w.heap.size, 0, none⟩) n.toNat c.toNat) ?_ (fun β' b1 _ hok => ?_) (fun β' b2 => ?_)
  · simp only [execOp, ho, Sem.run_bind, e1, e2, hr, Result.andThen_ok, Sem.run_pure]
  · refine .inr ⟨_, arr, e, rfl, heap_alloc_new w _, by simp; omega, has, fun x hx => ?_, fun i j x y hx hy => ?_⟩
    · rw [List.eq_of_mem_replicate hx]; exact ⟨hzc, (hzl w (fun _ => True)).fine⟩
    · have hx' : x = zero := List.eq_of_mem_replicate (List.mem_of_getElem? hx)
      subst hx'
      have hi : i < n.toNat := by have := (List.getElem?_eq_some_iff.1 hx).1; simpa using this
      have hj : j < x.cells.length := (List.getElem?_eq_some_iff.1 hy).1
      obtain ⟨c1, c2, c3⟩ := lies_cells (hzl (w.alloc (.cells arr e)) (okB C β' (σ.insAll [(k, .row sz (List.replicate n.toNat x))]).look (w.alloc (.cells arr e))))
      have hj2 := hj
      rw [c1] at hj2
      refine ⟨_, ?_, c3 j y _ hy (Array.getElem?_eq_getElem hj2)⟩
      rw [ha i j (by omega) (by omega)]
      exact Array.getElem?_eq_getElem hj2
  · have := SLies.own (w := w.alloc (.cells arr e)) (ok := okB C β' (σ.insAll [(k, .row sz (List.replicate n.toNat zero))]).look (w.alloc (.cells arr e))) (β := β') (lk := (σ.insAll [(k, .row sz (List.replicate n.toNat zero))]).look) k sz (List.replicate n.toNat zero) w.heap.size (by rw [St.look_ins]; simp) (by rw [b2])
    rw [b2] at this
    simpa using this

end
end Go.Av
