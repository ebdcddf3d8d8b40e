/- Operations that make nothing: one by one. -/
import Derived.Test.YtkcilagjhieapaaBv3
namespace Go.Av
section
variable {P : Program} {C : Ctx} {β : Key → Blk} {σ : St} {a : Act} {w : World}

/-! ### loads -/

theorem CellsAre.range {w : World} {b o : Nat} {us : List Value} (h : CellsAre w b o us) (off n : Nat) : CellsAre w b (o + off) ((us.drop off).take n) := by
  intro j u hu
  simp only [List.getElem?_take, List.getElem?_drop] at hu
  by_cases hj : j < n
  · simp only [hj, if_true] at hu
    rw [show o + off + j = o + (off + j) by omega]
    exact h _ _ hu
  · simp [hj] at hu

/-- What is loaded through an address. -/
def loadS (σ : St) (agg : Bool) (n : Nat) : SV → Option SV
  | .ptr k off => match σ.look k with
    | some (.box cs) => if off + n ≤ cs.length then SV.ofCells agg ((cs.drop off).take n) else none
    | _ => none
  | .ipv e off => if off + n ≤ e.cells.length then SV.ofCells agg (((e.cells.drop off).take n).map .pv) else none
  | .iown k i off => match σ.look k with
    | some (.row _ xs) => match xs[i]? with
      | some e => if off + n ≤ e.cells.length then SV.ofCells agg (((e.cells.drop off).take n).map .pv) else none
      | none => none
    | _ => none
  | _ => none

/-- The cells behind an address. -/
theorem behind (h : RR C β σ a w) {agg : Bool} {n : Nat} {x v : SV} {xv : Value} (hx : SLies w (okB C β σ.look w) β σ.look x xv) (hl : loadS σ agg n x = some v) :
    ∃ b o us, xv = .pointer (some ⟨b, o, none⟩) ∧ us.length = n ∧ CellsAre w b o us ∧ ∃ u, ofVals agg us = some u ∧ SLies w (okB C β σ.look w) β σ.look v u := by
  cases x with
  | ptr k off =>
    cases hx with
    | ptr _ _ cs bk hk hbk =>
      simp only [loadS, hk] at hl
      split at hl
      · rename_i hle
        obtain ⟨bk', arr, T, h0, h1, h2, h3, h4⟩ := h.objs k _ hk
        rw [hbk] at h0; cases h0
        have hcl : CellsLie w (okB C β σ.look w) β σ.look cs arr.toList := ⟨by simpa using h2.symm, fun u hu => h3 u (by simpa using hu), fun j y u hy hu => h4 j y u hy (by simpa using hu)⟩
        obtain ⟨u, hu, hs⟩ := ofCells_lie hl (hcl.range off n)
        refine ⟨_, _, _, rfl, ?_, ?_, u, hu, hs⟩
        · simp only [List.length_take, List.length_drop, Array.length_toList]; omega
        · have hc : CellsAre w bk 0 arr.toList := by
            intro j u hu
            simp only [World.cell?, h1, Nat.zero_add]
            simpa using hu
          simpa using hc.range off n
      · cases hl
  | ipv e off =>
    cases hx with
    | ipv _ _ b o us hb h1 hat hlie =>
      simp only [loadS] at hl
      split at hl
      · rename_i hle
        have hcl : CellsLie w (okB C β σ.look w) β σ.look (e.cells.map .pv) ((List.range e.cells.length).map us) := by
          refine CellsLie.pv (by simp) h1 (fun j y u hy hu => ?_)
          have hj := (List.getElem?_eq_some_iff.1 hy).1
          simp only [List.getElem?_map, List.getElem?_range hj, Option.map_some, Option.some.injEq] at hu
          subst hu
          exact hlie j y hy
        have hr := hcl.range off n
        rw [← List.map_drop, ← List.map_take] at hr
        obtain ⟨u, hu, hs⟩ := ofCells_lie hl hr
        refine ⟨b, o + off, _, rfl, ?_, ?_, u, hu, hs⟩
        · simp only [List.length_take, List.length_drop, List.length_map, List.length_range]; omega
        · have hc : CellsAre w b o ((List.range e.cells.length).map us) := by
            intro j u hu
            simp only [List.getElem?_map, Option.map_eq_some_iff] at hu
            obtain ⟨j', hj', rfl⟩ := hu
            have := List.getElem?_eq_some_iff.1 hj'
            obtain ⟨hlt, rfl⟩ := this
            simp only [List.getElem_range]
            exact hat j (by simpa using hlt)
          exact hc.range off n
      · cases hl
  | iown k i off =>
    cases hx with
    | iown _ _ _ sz xs bk hk hbk hi =>
      simp only [loadS, hk] at hl
      cases he : xs[i]? with
      | none => rw [he] at hl; cases hl
      | some e =>
        rw [he] at hl
        simp only at hl
        split at hl
        · rename_i hle
          obtain ⟨bk', arr, T, h0, h1, h2, h3, h4, h5⟩ := (h.objs k _ hk).resolve_left (fun e => by rw [hbk] at e; cases e.1)
          rw [hbk] at h0; cases h0
          have hem := h4 e (List.mem_of_getElem? he)
          let us : Nat → Value := fun j => arr.getD (i * sz + j) undef
          have hus : ∀ (j : Nat) (y : PV), e.cells[j]? = some y → arr[i * sz + j]? = some (us j) ∧ Lies w (okB C β σ.look w) y (us j) := by
            intro j y hy
            obtain ⟨u, hu, hl⟩ := h5 i j e y he hy
            have : us j = u := by obtain ⟨hlt, rfl⟩ := Array.getElem?_eq_some_iff.1 hu; simp [us, Array.getD, hlt]
            rw [this]; exact ⟨hu, hl⟩
          have hcl : CellsLie w (okB C β σ.look w) β σ.look (e.cells.map .pv) ((List.range e.cells.length).map us) := by
            refine CellsLie.pv (by simp) hem.2 (fun j y u hy hu => ?_)
            have hj := (List.getElem?_eq_some_iff.1 hy).1
            simp only [List.getElem?_map, List.getElem?_range hj, Option.map_some, Option.some.injEq] at hu
            subst hu
            exact (hus j y hy).2
          have hr := hcl.range off n
          rw [← List.map_drop, ← List.map_take] at hr
          obtain ⟨u, hu, hs⟩ := ofCells_lie hl hr
          refine ⟨bk, i * sz + off, _, rfl, ?_, ?_, u, hu, hs⟩
          · simp only [List.length_take, List.length_drop, List.length_map, List.length_range]; omega
          · have hc : CellsAre w bk (i * sz) ((List.range e.cells.length).map us) := by
              intro j u hu
              simp only [List.getElem?_map, Option.map_eq_some_iff] at hu
              obtain ⟨j', hj', rfl⟩ := hu
              obtain ⟨hlt, rfl⟩ := List.getElem?_eq_some_iff.1 hj'
              simp only [List.getElem_range]
              have hlt' : j < e.cells.length := by simpa using hlt
              have := (hus j _ (List.getElem?_eq_getElem hlt')).1
              simp only [World.cell?, h1]
              simpa using this
            exact hc.range off n
        · cases hl
  | pv x => simp [loadS] at hl
  | nils => simp [loadS] at hl
  | own k => simp [loadS] at hl
  | mp k => simp [loadS] at hl
  | agg cs => simp [loadS] at hl
  | tup cs => simp [loadS] at hl
  | fn f cs => simp [loadS] at hl
  | dead => simp [loadS] at hl

theorem run_load_ok (h : RR C β σ a w) {t : TypeId} {agg : Bool} {n : Nat} (ht : aggT P t = some (agg, n)) {x v : SV} {xv : Value} (hx : SLies w (okB C β σ.look w) β σ.look x xv)
    (hl : loadS σ agg n x = some v) : ∃ u, (Instr.loadAt t xv).run P w = .ok u w ∧ SLies w (okB C β σ.look w) β σ.look v u := by
  obtain ⟨b, o, us, rfl, hn, hc, u, hu, hs⟩ := behind h hx hl
  subst hn
  exact ⟨u, by simp [Instr.loadAt, Instr.sureAddr, run_loadVar' ht hc hu], hs⟩

/-! ### numbers, truths, strings -/

theorem bytes_append (a b : List UInt8) : (⟨a.toArray⟩ ++ ⟨b.toArray⟩ : ByteArray) = ⟨(a ++ b).toArray⟩ := by
  apply ByteArray.ext
  simp [ByteArray.data_append]

theorem toList_loop (bs : ByteArray) : ∀ (n i : Nat) (r : List UInt8), bs.size - i = n → ByteArray.toList.loop bs i r = r.reverse ++ bs.data.toList.drop i := by
  intro n
  induction n with
  | zero =>
    intro i r h
    unfold ByteArray.toList.loop
    have h1 : ¬ i < bs.size := by omega
    have h2 : bs.data.toList.length ≤ i := by
      have : bs.data.toList.length = bs.size := Array.length_toList
      omega
    simp [h1, List.drop_eq_nil_of_le h2]
  | succ n ih =>
    intro i r h
    unfold ByteArray.toList.loop
    have h1 : i < bs.size := by omega
    rw [if_pos h1, ih (i + 1) _ (by omega)]
    have h3 : i < bs.data.toList.length := by rw [Array.length_toList]; exact h1
    have h2 : bs.data.toList.drop i = bs.get! i :: bs.data.toList.drop (i + 1) := by
      rw [List.drop_eq_getElem_cons h3]
      congr 1
      simp only [ByteArray.get!, Array.getElem_toList]
      exact (getElem!_pos bs.data i (by simpa using h3)).symm
    rw [h2]
    simp

theorem bytes_toList (a : List UInt8) : (⟨a.toArray⟩ : ByteArray).toList = a := by
  have := toList_loop ⟨a.toArray⟩ _ 0 [] rfl
  simpa [ByteArray.toList] using this

theorem bytes_size (a : List UInt8) : (⟨a.toArray⟩ : ByteArray).size = a.length := by simp [ByteArray.size]

theorem run_equal_bool {t : TypeId} (ht : P.underlying t = some .bool) (b c : Bool) (w : World) : (Op.equal t (.bool b) (.bool c)).run P w = .ok (b == c) w := by
  have h : ∀ d, (Op.equalIn (d + 1) t (.bool b) (.bool c)).run P w = .ok (b == c) w := fun d => by
    simp only [Op.equalIn, Sem.run_bind, run_underlying ht, Result.andThen_ok, Sem.run_pure]
  exact h 9999

theorem run_bin {op : BinOp} {t : TypeId} {x y v : PV} {xv yv : Value} {ok : Nat → Prop} (ht : (op = .eql ∨ op = .neq) → P.underlying t = some .bool ∨ ∀ b, x ≠ .bool b)
    (hx : Lies w ok x xv) (hy : Lies w ok y yv) (h : binPV op x y = some v) : ∃ u, (Go.binOp op t xv yv).run P w = .ok u w ∧ Lies w ok v u := by
  cases hx <;> cases hy <;> simp only [binPV] at h <;> try (cases h; done)
  · -- numbers
    rename_i k m k' n
    cases op
    case shl =>
      simp only [binShift] at h
      split at h
      · cases h
      · rename_i hb; simp only [Option.some.injEq] at h; subst h
        exact ⟨_, by simp [Go.binOp, Op.shift, hb], .int _ _⟩
    case shr =>
      simp only [binShift] at h
      split at h
      · cases h
      · rename_i hb; simp only [Option.some.injEq] at h; subst h
        exact ⟨_, by simp [Go.binOp, Op.shift, hb], .int _ _⟩
    all_goals
      dsimp only at h
      split at h <;> try (cases h; done)
      rename_i hk; subst hk
      simp only [binInt] at h
      first
        | (simp only [Option.some.injEq] at h; subst h
           refine ⟨_, (by simp only [Go.binOp, ne_eq, not_true_eq_false, if_false]; rfl), ?_⟩
           constructor)
        | (split at h <;> try (cases h; done)
           rename_i hb; simp only [Option.some.injEq] at h; subst h
           exact ⟨_, by simp [Go.binOp, Op.intDiv, hb], .int _ _⟩)
  · -- truths
    rename_i b c
    cases op <;> simp only at h <;> try (cases h; done)
    · have := (ht (.inl rfl)).resolve_right (fun h => h b rfl)
      simp only [Option.some.injEq] at h; subst h
      exact ⟨_, by simp only [Go.binOp, Sem.run_bind, run_equal_bool this, Result.andThen_ok, Sem.run_pure], .bool _⟩
    · have := (ht (.inr rfl)).resolve_right (fun h => h b rfl)
      simp only [Option.some.injEq] at h; subst h
      exact ⟨_, by simp only [Go.binOp, Sem.run_bind, run_equal_bool this, Result.andThen_ok, Sem.run_pure], .bool _⟩
  · -- strings
    rename_i s t
    cases op <;> simp only [binStr] at h <;> try (cases h; done)
    case add =>
      split at h
      · rename_i hb; simp only [Option.some.injEq] at h; subst h
        have : ¬ ((s.length + t.length : Nat) : Int) > IntKind.i64.max := by simp [IntKind.max, IntKind.signed, IntKind.bits]; omega
        refine ⟨_, by simp only [Go.binOp, Op.stringOp, bytes_size, if_neg this, Sem.run_pure, bytes_append], .str _⟩
      · cases h
    all_goals
      simp only [Option.some.injEq] at h; subst h
      exact ⟨_, by simp only [Go.binOp, Op.stringOp, bytes_toList, Sem.run_pure], .bool _⟩

theorem run_guard {op : BinOp} {t : TypeId} {x y : Operand} {xv yv : Value} (hx : xv.oneCell' = true) (hn : xv ≠ .nilIface) : (eqGuard op t x y xv yv).run P w = .ok () w := by
  cases op <;> first
    | rfl
    | (cases xv <;> first | rfl | (exact absurd rfl hn) | (simp [Value.oneCell'] at hx; done) | (cases yv <;> rfl))

theorem run_un {op : UnOp} {x v : PV} {xv : Value} {ok : Nat → Prop} (hx : Lies w ok x xv) (h : unPV op x = some v) : ∃ u, (Op.unary op xv).run P w = .ok u w ∧ Lies w ok v u := by
  cases op <;> cases x <;> simp only [unPV] at h <;> try (cases h; done)
  · cases hx; simp only [Option.some.injEq] at h; subst h
    exact ⟨_, by simp only [Op.unary, Op.intArith, Sem.run_pure], .int _ _⟩
  · cases hx; simp only [Option.some.injEq] at h; subst h
    exact ⟨_, by simp only [Op.unary, Sem.run_pure], .bool _⟩

/-! ### addresses -/

theorem run_fld {s : TypeId} {f off : Nat} {fields : Array Field} {fd : Field} {i : TypeInfo} (hs : P.underlying s = some (.struct fields)) (hf : fields[f]? = some fd) (hi : P.info? fd.type = some i) (hz : i.size ≠ 0)
    (ho : fd.offset = off) (b o : Nat) : (Instr.fieldAt s (.pointer (some ⟨b, o, none⟩)) f).run P w = .ok (.pointer (some ⟨b, o + off, none⟩)) w := by
  subst ho
  simp only [Instr.fieldAt, Sem.run_bind, run_underlying hs, Result.andThen_ok, hf, Instr.sureAddr, Sem.run_pure, fieldPlace, run_sizeOf' hi, if_neg hz, addr_add]

theorem run_idx {t e : TypeId} {sz : Nat} {i : TypeInfo} (ht : P.underlying t = some (.slice e)) (hi : P.info? e = some i) (hs : i.size = sz) {b : Addr} (hb : b.spot = none) (len cap : Nat) (k : IntKind) (n : Int) (h0 : 0 ≤ n) (h1 : n.toNat < len) :
    (Instr.indexAt t (.slice (some b) len cap) (.int k n)).run P w = .ok (.pointer (some ⟨b.block, b.off + n.toNat * sz, none⟩)) w := by
  subst hs
  obtain ⟨bb, bo, bs⟩ := b
  simp at hb; subst hb
  have hc : 0 ≤ n ∧ n < (len : Int) := ⟨h0, by omega⟩
  simp only [Instr.indexAt, asIntOf, Sem.run_bind, Sem.run_pure, Result.andThen_ok, run_underlying ht, if_pos hc, run_sizeOf' hi, addr_add]

end
end Go.Av
