/- Operations that make nothing: the machine does what the abstract interpreter says. -/
import Derived.Test.YtkcilagjhieapaaBv2
namespace Go.Av

/-! ### operands -/

def agreeC : Value → PV → Bool
  | .int k n, .int k' n' => decide (k = k') && n == n'
  | .bool b, .bool b' => b == b'
  | .string s, .str l => s.data.toList == l
  | .nilIface, .nilI => true
  | .nilFunc, .nilFn => true
  | _, _ => false

def agreeO : Operand → Opd → Bool
  | .tmp t, .tmp t' => t == t'
  | .const v, .cst x => agreeC v x
  | .const (.slice none 0 0), .nils => true
  | .func f, .cst (.fn f') => f == f'
  | _, _ => false

theorem agreeC_lies {w : World} {ok : Nat → Prop} {v : Value} {x : PV} (h : agreeC v x = true) : Lies w ok x v := by
  cases v <;> cases x <;> simp only [agreeC, Bool.and_eq_true, decide_eq_true_eq, beq_iff_eq] at h <;> try (cases h; done)
  · subst h; exact .bool _
  · obtain ⟨rfl, rfl⟩ := h; exact .int _ _
  · rename_i s l; subst h; exact .str _
  · exact .nilFn
  · exact .nilI

section
variable {C : Ctx} {β : Key → Blk} {σ : St} {a : Act} {w : World}

theorem RR.ev (h : RR C β σ a w) {x : Operand} {x' : Opd} (hx : agreeO x x' = true) : SLies w (okB C β σ.look w) β σ.look (σ.ev x') (a.eval x) := by
  cases x with
  | tmp t =>
    cases x' with
    | tmp t' => simp only [agreeO, beq_iff_eq] at hx; subst hx; exact h.slots t
    | cst y => simp [agreeO] at hx
    | nils => simp [agreeO] at hx
  | const v =>
    cases x' with
    | tmp t' => cases v <;> simp [agreeO] at hx
    | cst y => exact .pv _ _ (agreeC_lies (v := v) (by simpa [agreeO] using hx))
    | nils =>
      cases v <;> simp only [agreeO] at hx <;> try (cases hx; done)
      rename_i ad n c
      cases ad <;> (try (simp at hx; done))
      cases n <;> (try (simp at hx; done))
      cases c <;> (try (simp at hx; done))
      exact .nils _
  | global g => cases x' <;> simp [agreeO] at hx
  | func f =>
    cases x' with
    | tmp t' => simp [agreeO] at hx
    | cst y =>
      cases y <;> simp only [agreeO, beq_iff_eq] at hx <;> try (cases hx; done)
      subst hx
      exact .pv _ _ (.fn f)
    | nils => simp [agreeO] at hx

end

/-! ### what an operation's run gives -/

/-- 'o' yields v and leaves the world. -/
theorem wp_value {P : Program} {o : Oper} {a : Act} {w : World} {K : Act → World → Prop} {Q : Exit → Act → World → Prop} {v : Value}
    (h : (execOp a.eval o).run P w = .ok (.value v) w) (hK : K (a.put o.dst v) w) : o.wp P a w K Q := by
  simp only [Oper.wp, h, Oper.upon]
  exact hK

/-- ... and a world beside. -/
theorem wp_value' {P : Program} {o : Oper} {a : Act} {w w' : World} {K : Act → World → Prop} {Q : Exit → Act → World → Prop} {v : Value}
    (h : (execOp a.eval o).run P w = .ok (.value v) w') (hK : K (a.put o.dst v) w') : o.wp P a w K Q := by
  simp only [Oper.wp, h, Oper.upon]
  exact hK

theorem wp_skipv {P : Program} {o : Oper} {a : Act} {w w' : World} {K : Act → World → Prop} {Q : Exit → Act → World → Prop}
    (h : (execOp a.eval o).run P w = .ok .skip w') (hK : K (a.put o.dst undef) w') : o.wp P a w K Q := by
  simp only [Oper.wp, h, Oper.upon]
  exact hK

/-! ### types -/

def isAggD : TypeDesc → Bool
  | .struct _ | .array _ _ => true
  | _ => false

def aggT (P : Program) (t : TypeId) : Option (Bool × Nat) :=
  match P.underlying t, P.info? t with
  | some d, some i => some (isAggD d, i.size)
  | _, _ => none

theorem run_isAgg {P : Program} {t : TypeId} {d : TypeDesc} (h : P.underlying t = some d) (w : World) : (isAgg t).run P w = .ok (isAggD d) w := by
  simp only [isAgg, Sem.run_bind, run_underlying h, Result.andThen_ok]
  cases d <;> rfl

theorem run_sizeOf' {P : Program} {t : TypeId} {i : TypeInfo} (h : P.info? t = some i) (w : World) : (sizeOf t).run P w = .ok i.size w := by
  simp [sizeOf, typeInfo, h]

theorem aggT_spec {P : Program} {t : TypeId} {b : Bool} {n : Nat} (h : aggT P t = some (b, n)) : ∃ d i, P.underlying t = some d ∧ P.info? t = some i ∧ isAggD d = b ∧ i.size = n := by
  unfold aggT at h
  cases hu : P.underlying t with
  | none => simp [hu] at h
  | some d =>
    cases hi : P.info? t with
    | none => simp [hu, hi] at h
    | some i => simp [hu, hi] at h; exact ⟨d, i, rfl, rfl, h.1, h.2⟩

/-! ### loads -/

/-- Some cells at a place. -/
def CellsAre (w : World) (b o : Nat) (us : List Value) : Prop := ∀ j u, us[j]? = some u → w.cell? ⟨b, o + j, none⟩ = some u

theorem addr_add (b o n : Nat) : (⟨b, o, none⟩ : Addr).add n = ⟨b, o + n, none⟩ := by unfold Addr.add; split <;> simp_all

/-- A value of some cells, as it is loaded. -/
def ofVals (agg : Bool) (us : List Value) : Option Value :=
  bif agg then some (.agg us.toArray) else match us with
    | [u] => some u
    | _ => none

theorem run_loadVar' {P : Program} {t : TypeId} {agg : Bool} {us : List Value} {v : Value} (h : aggT P t = some (agg, us.length)) {w : World} {b o : Nat}
    (hc : CellsAre w b o us) (hv : ofVals agg us = some v) : (loadVar t ⟨b, o, none⟩).run P w = .ok v w := by
  obtain ⟨d, i, h1, h2, h3, h4⟩ := aggT_spec h
  have hl := run_loadCells_list (P := P) w ⟨b, o, none⟩ us (fun j u hu => by rw [addr_add]; exact hc j u hu)
  simp only [loadVar, Sem.run_bind, run_isAgg h1, Result.andThen_ok, h3]
  cases agg with
  | true =>
    simp only [ofVals, cond_true, Option.some.injEq] at hv
    simp only [if_true, Sem.run_bind, run_sizeOf' h2, Result.andThen_ok, h4, hl, Sem.run_pure, hv]
  | false =>
    simp only [ofVals, cond_false] at hv
    cases us with
    | nil => cases hv
    | cons u r =>
      cases r with
      | cons _ _ => cases hv
      | nil =>
        simp at hv; subst hv
        have := hc 0 u rfl
        simp only [Nat.add_zero] at this
        simp [this]

/-- Cells, each as it is said. -/
def CellsLie (w : World) (ok : Nat → Prop) (β : Key → Blk) (lk : Key → Option HObj) (cs : List SV) (us : List Value) : Prop :=
  cs.length = us.length ∧ (∀ u ∈ us, u.oneCell' = true) ∧ ∀ (j : Nat) (x : SV) (u : Value), cs[j]? = some x → us[j]? = some u → SLies w ok β lk x u

theorem pures_lie {w : World} {ok : Nat → Prop} {β : Key → Blk} {lk : Key → Option HObj} : ∀ {cs : List SV} {us : List Value} {xs : List PV}, SV.ofCells.pures cs = some xs → CellsLie w ok β lk cs us →
    xs.length = us.length ∧ ∀ (j : Nat) (x : PV) (u : Value), xs[j]? = some x → us[j]? = some u → Lies w ok x u
  | [], us, xs, h, hl => by
    simp [SV.ofCells.pures] at h; subst h
    exact ⟨by simpa using hl.1, by simp⟩
  | .pv x :: cs, us, xs, h, hl => by
    simp only [SV.ofCells.pures, Option.map_eq_some_iff] at h
    obtain ⟨xs', h1, rfl⟩ := h
    cases us with
    | nil => have := hl.1; simp at this
    | cons u us =>
      have ih := pures_lie (us := us) h1 ⟨by simpa using hl.1, fun v hv => hl.2.1 v (by simp [hv]), fun j y v hy hv => hl.2.2 (j + 1) y v (by simpa using hy) (by simpa using hv)⟩
      refine ⟨by simp [ih.1], fun j y v hy hv => ?_⟩
      cases j with
      | zero =>
        simp at hy hv; subst hy; subst hv
        have := hl.2.2 0 (.pv x) u (by simp) (by simp)
        cases this with | pv _ _ h => exact h
      | succ j => exact ih.2 j y v (by simpa using hy) (by simpa using hv)
  | .nils :: _, _, _, h, _ => by simp [SV.ofCells.pures] at h
  | .ptr _ _ :: _, _, _, h, _ => by simp [SV.ofCells.pures] at h
  | .own _ :: _, _, _, h, _ => by simp [SV.ofCells.pures] at h
  | .mp _ :: _, _, _, h, _ => by simp [SV.ofCells.pures] at h
  | .iown _ _ _ :: _, _, _, h, _ => by simp [SV.ofCells.pures] at h
  | .ipv _ _ :: _, _, _, h, _ => by simp [SV.ofCells.pures] at h
  | .agg _ :: _, _, _, h, _ => by simp [SV.ofCells.pures] at h
  | .tup _ :: _, _, _, h, _ => by simp [SV.ofCells.pures] at h
  | .fn _ _ :: _, _, _, h, _ => by simp [SV.ofCells.pures] at h
  | .dead :: _, _, _, h, _ => by simp [SV.ofCells.pures] at h

theorem one_of_oneCell {w : World} {ok : Nat → Prop} {x : PV} {u : Value} (h : Lies w ok x u) (hu : u.oneCell' = true) : x.one = true := by
  cases h <;> first | rfl | (simp [Value.oneCell'] at hu)

theorem ofCells_lie {w : World} {ok : Nat → Prop} {β : Key → Blk} {lk : Key → Option HObj} {agg : Bool} {cs : List SV} {us : List Value} {v : SV}
    (h : SV.ofCells agg cs = some v) (hl : CellsLie w ok β lk cs us) : ∃ u, ofVals agg us = some u ∧ SLies w ok β lk v u := by
  cases agg with
  | true =>
    refine ⟨_, rfl, ?_⟩
    simp only [SV.ofCells, cond_true] at h
    cases hp : SV.ofCells.pures cs with
    | none => rw [hp] at h; simp at h; subst h; exact .agg cs us hl.1 hl.2.2 hl.2.1
    | some xs =>
      rw [hp] at h; simp at h; subst h
      obtain ⟨h1, h2⟩ := pures_lie hp hl
      refine .pv _ _ (.agg xs us h1 (fun x hx => ?_) h2)
      obtain ⟨j, hj⟩ := List.mem_iff_getElem?.1 hx
      have hjl : j < us.length := by rw [← h1]; exact (List.getElem?_eq_some_iff.1 hj).1
      have hu : us[j]? = some us[j] := by simp [hjl]
      exact one_of_oneCell (h2 j x _ hj hu) (hl.2.1 _ (List.getElem_mem hjl))
  | false =>
    simp only [SV.ofCells, cond_false] at h
    cases cs with
    | nil => cases h
    | cons c r =>
      cases r with
      | cons _ _ => cases h
      | nil =>
        simp at h; subst h
        have := hl.1
        match us, this, hl with
        | [u], _, hl => exact ⟨u, rfl, hl.2.2 0 c u (by simp) (by simp)⟩

theorem CellsLie.range {w : World} {ok : Nat → Prop} {β : Key → Blk} {lk : Key → Option HObj} {cs : List SV} {us : List Value} (h : CellsLie w ok β lk cs us) (off n : Nat) :
    CellsLie w ok β lk ((cs.drop off).take n) ((us.drop off).take n) := by
  refine ⟨by simp [h.1], fun u hu => h.2.1 u (List.mem_of_mem_drop (List.mem_of_mem_take hu)), fun j x u hx hu => ?_⟩
  simp only [List.getElem?_take, List.getElem?_drop] at hx hu
  by_cases hj : j < n
  · simp only [hj, if_true] at hx hu; exact h.2.2 _ _ _ hx hu
  · simp [hj] at hx

/-- The cells of a value without memory. -/
theorem CellsLie.pv {w : World} {ok : Nat → Prop} {β : Key → Blk} {lk : Key → Option HObj} {xs : List PV} {us : List Value} (hl : xs.length = us.length) (h1 : ∀ x ∈ xs, x.one = true)
    (h : ∀ (j : Nat) (x : PV) (u : Value), xs[j]? = some x → us[j]? = some u → Lies w ok x u) : CellsLie w ok β lk (xs.map .pv) us := by
  refine ⟨by simpa using hl, fun u hu => ?_, fun j x u hx hu => ?_⟩
  · obtain ⟨j, hj⟩ := List.mem_iff_getElem?.1 hu
    have hjl : j < xs.length := by rw [hl]; exact (List.getElem?_eq_some_iff.1 hj).1
    exact (h j _ u (by simp [hjl]) hj).oneCell (h1 _ (List.getElem_mem hjl))
  · simp only [List.getElem?_map, Option.map_eq_some_iff] at hx
    obtain ⟨y, hy, rfl⟩ := hx
    exact .pv _ _ (h j y u hy hu)

end Go.Av
