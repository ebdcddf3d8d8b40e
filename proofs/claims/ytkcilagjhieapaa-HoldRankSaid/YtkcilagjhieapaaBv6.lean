/- Cuts, and operations that lay a block. -/
import Derived.Test.YtkcilagjhieapaaBv5
set_option linter.unusedVariables false
namespace Go.Av
section
variable {P : Program} {C : Ctx} {β : Key → Blk} {σ : St} {a : Act} {w : World} {o : Oper}

theorem allLen_spec {sz : Nat} {xs : List PV} (h : allLen sz xs = true) : ∀ x ∈ xs, x.cells.length = sz := by
  intro x hx
  have := List.all_eq_true.1 h x hx
  simpa using this

/-- A bound that is given, or its default. -/
theorem run_bound (h : RR C β σ a w) {lo : Option Operand} {lo' : Option Opd} (hlo : agreeOpt agreeO lo lo' = true) {d top n : Nat} (hb : bound σ d top lo' = some n) :
    (lo.map a.eval = none ∧ n = d) ∨ ∃ k m, lo.map a.eval = some (.int k m) ∧ 0 ≤ m ∧ m ≤ top ∧ n = m.toNat := by
  cases lo with
  | none =>
    cases lo' with
    | none => simp only [bound, Option.some.injEq] at hb; exact .inl ⟨rfl, hb.symm⟩
    | some _ => simp [agreeOpt] at hlo
  | some x =>
    cases lo' with
    | none => simp [agreeOpt] at hlo
    | some x' =>
      simp only [agreeOpt] at hlo
      simp only [bound] at hb
      cases hi : intOf (σ.ev x') with
      | none => rw [hi] at hb; cases hb
      | some p =>
        obtain ⟨k, m⟩ := p
        rw [hi] at hb
        simp only at hb
        split at hb
        · rename_i hc
          have := slies_int (h.ev hlo) hi
          cases hb
          exact .inr ⟨k, m, by simp [this], hc.1, hc.2, rfl⟩
        · cases hb

theorem run_sliceBound {k : IntKind} {m : Int} {y : Nat} {code : BoundsCode} (h0 : 0 ≤ m) (h1 : m ≤ y) : (Instr.sliceBound (.int k m) y code).run P w = .ok m.toNat w := by
  simp only [Instr.sliceBound, asIntOf, Sem.run_bind, Sem.run_pure, Result.andThen_ok, if_pos (And.intro h0 h1)]

theorem run_bounds (h : RR C β σ a w) {isS : Bool} {len cap : Nat} {lo hi : Option Operand} {lo' hi' : Option Opd} (hlo : agreeOpt agreeO lo lo' = true) (hhi : agreeOpt agreeO hi hi' = true) (hc : len ≤ cap)
    {l r : Nat} (hr : bound σ len len hi' = some r) (hl : bound σ 0 r lo' = some l) : r ≤ len ∧ l ≤ r ∧ (Instr.sliceBounds isS len cap (lo.map a.eval) (hi.map a.eval) none).run P w = .ok (l, r, cap) w := by
  rcases run_bound h hhi hr with ⟨e, rfl⟩ | ⟨k, m, e, h0, h1, rfl⟩ <;> rcases run_bound h hlo hl with ⟨e', rfl⟩ | ⟨k', m', e', h0', h1', rfl⟩ <;> rw [e, e']
  · exact ⟨Nat.le_refl _, by omega, rfl⟩
  · exact ⟨Nat.le_refl _, by omega, by simp only [Instr.sliceBounds, Sem.run_bind, Sem.run_pure, Result.andThen_ok, run_sliceBound h0' h1']⟩
  · have h2 : m ≤ (cap : Int) := by omega
    exact ⟨by omega, by omega, by simp only [Instr.sliceBounds, Sem.run_bind, Sem.run_pure, Result.andThen_ok, run_sliceBound h0 h2]⟩
  · have h2 : m ≤ (cap : Int) := by omega
    exact ⟨by omega, by omega, by simp only [Instr.sliceBounds, Sem.run_bind, Sem.run_pure, Result.andThen_ok, run_sliceBound h0 h2, run_sliceBound h0' h1']⟩

theorem bytes_extract (s : List UInt8) (l r : Nat) : (⟨s.toArray⟩ : ByteArray).extract l r = ⟨((s.take r).drop l).toArray⟩ := by
  apply ByteArray.ext
  apply Array.ext'
  simp [ByteArray.data_extract, List.drop_take]

theorem sound_slcs (h : RR C β σ a w) (hd : ∀ i, o.dst = some i → i < C.nt) {t : TypeId} {x : Operand} {x' : Opd} {lo hi : Option Operand} {lo' hi' : Option Opd} (ho : o.op = .slice t x lo hi none) (hx : agreeO x x' = true)
    (hlo : agreeOpt agreeO lo lo' = true) (hhi : agreeOpt agreeO hi hi' = true) (ht : P.underlying t = some .string) {s : List UInt8} (hev : σ.ev x' = .pv (.str s)) {l r : Nat} (hr : bound σ s.length s.length hi' = some r) (hl : bound σ 0 r lo' = some l) :
    StepOK P C ((σ.insAll []).put o.dst (.pv (.str ((s.take r).drop l)))) o a w := by
  have hxl := h.ev hx
  rw [hev] at hxl
  have hxe := lies_str (slies_pv hxl)
  obtain ⟨h1, h2, hb⟩ := run_bounds (P := P) (isS := false) h hlo hhi (Nat.le_refl s.length) hr hl
  refine StepOK.value h hd (v := .string ⟨((s.take r).drop l).toArray⟩) ?_ (.pv _ _ (.str _))
  simp only [execOp, ho, Sem.run_bind, Option.map_none, Instr.sliceAt, run_underlying ht, Result.andThen_ok, Instr.slice, hxe, bytes_size, Option.isSome_none, Bool.false_eq_true, if_false, Sem.run_pure, hb, bytes_extract]

theorem tidy_slice {ok : Nat → Prop} {lk : Key → Option HObj} {x : SV} {v : Value} {xs : List PV} (hx : SLies w ok β lk x v) (ht : x.tidy = .pv (.slice xs)) : Lies w ok (.slice xs) v := by
  unfold SV.tidy at ht
  cases x with
  | pv p => simp only [SV.clean, SV.pv.injEq] at ht; subst ht; exact slies_pv hx
  | nils =>
    simp only [SV.clean, SV.pv.injEq, PV.slice.injEq] at ht
    subst ht
    cases hx
    exact .slice [] _ 0 0 0 (fun _ _ => undef) rfl (Nat.le_refl _) (by simp) (by simp) (by intro i j hi; omega) (by omega) (by simp)
  | agg cs =>
    simp only [SV.clean] at ht
    cases hc : SV.clean.cleanL cs with
    | none => rw [hc] at ht; simp at ht
    | some ys => rw [hc] at ht; simp at ht
  | fn f cs =>
    cases cs with
    | nil => simp [SV.clean] at ht
    | cons c cs => simp [SV.clean] at ht
  | _ => simp [SV.clean] at ht

theorem sound_slc (h : RR C β σ a w) (hd : ∀ i, o.dst = some i → i < C.nt) {t e : TypeId} {sz : Nat} {x : Operand} {x' : Opd} {lo hi : Option Operand} {lo' hi' : Option Opd} (ho : o.op = .slice t x lo hi none) (hx : agreeO x x' = true)
    (hlo : agreeOpt agreeO lo lo' = true) (hhi : agreeOpt agreeO hi hi' = true) (ht : P.underlying t = some (.slice e)) {i : TypeInfo} (hi1 : P.info? e = some i) (hi2 : i.size = sz)
    {xs : List PV} (hev : (σ.ev x').tidy = .pv (.slice xs)) {l r : Nat} (hr : bound σ xs.length xs.length hi' = some r) (hl : bound σ 0 r lo' = some l) (ha : allLen sz xs = true) :
    StepOK P C ((σ.insAll []).put o.dst (.pv (.slice ((xs.take r).drop l)))) o a w := by
  subst hi2
  obtain ⟨ad, cap, sz1, us, hxe, hc, hsz1, h1, hat, hp, hlie⟩ := lies_slice (tidy_slice (h.ev hx) hev)
  obtain ⟨h2, h3, hb⟩ := run_bounds (P := P) (isS := true) h hlo hhi hc hr hl
  have hlen : ((xs.take r).drop l).length = r - l := by simp; omega
  have hsub : ∀ x ∈ (xs.take r).drop l, x ∈ xs := fun x hx => List.mem_of_mem_take (List.mem_of_mem_drop hx)
  refine StepOK.value h hd (v := .slice (if cap = l then ad else ad.map (·.add (l * i.size))) (r - l) (cap - l)) ?_ (.pv _ _ ?_)
  · simp only [execOp, ho, Sem.run_bind, Option.map_none, Instr.sliceAt, run_underlying ht, Result.andThen_ok, Instr.slice, hxe, hb, run_sizeOf' hi1, Sem.run_pure]
  · have hat' : ∀ i1 j, i1 < r - l → j < sz1 → ∃ b : Addr, (if cap = l then ad else ad.map (·.add (l * i.size))) = some b ∧ b.spot = none ∧ okB C β σ.look w b.block ∧ w.cell? ⟨b.block, b.off + i1 * sz1 + j, none⟩ = some (us (l + i1) j) := by
      intro i1 j hi1' hj
      have hne : ¬ cap = l := by omega
      obtain ⟨b, hb1, hb2, hb3, hb4⟩ := hat (l + i1) j (by omega) hj
      have hm : xs[0]? = some (xs[0]'(by omega)) := by simp
      have hs : sz1 = i.size := by
        have hm : xs[l]'(by omega) ∈ xs := List.getElem_mem _
        rw [← hsz1 _ hm, allLen_spec ha _ hm]
      subst hs
      refine ⟨b.add (l * i.size), by simp [hne, hb1], ?_, ?_, ?_⟩
      · unfold Addr.add; split <;> simp [hb2]
      · unfold Addr.add; split <;> simpa using hb3
      · obtain ⟨bb, bo, bs⟩ := b
        simp only at hb2; subst hb2
        rw [addr_add]
        rw [Nat.add_mul] at hb4
        simpa [Nat.add_assoc] using hb4
    refine .slice _ _ _ _ sz1 (fun i1 j => us (l + i1) j) hlen.symm (by omega) (fun x hx => hsz1 x (hsub x hx)) (fun x hx => h1 x (hsub x hx)) hat' ?_ ?_
    · intro h0
      have hne : ¬ cap = l := by omega
      obtain ⟨b, rfl, hb2⟩ := hp (by omega)
      exact ⟨b.add (l * i.size), by simp [hne], by unfold Addr.add; split <;> simp [hb2]⟩
    · intro i1 j x y hx hy
      have : xs[l + i1]? = some x := by
        simp only [List.getElem?_drop, List.getElem?_take] at hx
        split at hx
        · exact hx
        · cases hx
      exact hlie (l + i1) j x y this hy

end
end Go.Av
