/- Calls. -/
import Derived.Test.YtkcilagjhieapaaAvB
set_option linter.unusedVariables false
set_option linter.unusedSimpArgs false
namespace Go.Av
section
variable {P : Program} {C : Ctx} {β : Key → Blk} {σ : St} {a : Act} {w : World} {o : Oper}

theorem target_is {ok : Nat → Prop} {lk : Key → Option HObj} {f' : Opd} {g : FuncId} {caps : List SV} (ht : σ.target f' = some (g, caps)) {v : Value} (hx : SLies w ok β lk (σ.ev f') v) :
    ∃ us : List Value, v = .func (.func g) #[] us.toArray ∧ caps.length = us.length ∧ ∀ (j : Nat) (x : SV) (u : Value), caps[j]? = some x → us[j]? = some u → SLies w ok β lk x u := by
  unfold St.target at ht
  generalize σ.ev f' = x at ht hx
  cases x with
  | pv p =>
    cases p with
    | fn f =>
      simp only [Option.some.injEq, Prod.mk.injEq] at ht
      obtain ⟨rfl, rfl⟩ := ht
      have := slies_pv hx
      cases this
      exact ⟨[], rfl, rfl, by simp⟩
    | _ => cases ht
  | fn f cs =>
    simp only [Option.some.injEq, Prod.mk.injEq] at ht
    obtain ⟨rfl, rfl⟩ := ht
    cases hx with
    | fn _ _ us hl hs => exact ⟨us, rfl, hl, hs⟩
  | _ => cases ht

theorem run_call {c : Call} {fo : Operand} {g : FuncId} {us : List Value} (ho : o.op = .call c) (hc : c.callee = .value fo) (hf : a.eval fo = .func (.func g) #[] us.toArray) (hE : Enters P g) :
    (execOp a.eval o).run P w = .ok (.enter g (c.args.toList.map a.eval ++ us).toArray) w := by
  obtain ⟨fn, h1, h2, h3⟩ := hE
  have e : (c.args.toList.map a.eval ++ us).toArray = c.args.map a.eval ++ us.toArray := by
    apply Array.ext'
    simp
  rw [e]
  simp only [execOp, ho, Sem.run_bind, resolve, hc, hf, Deferred.ofValue, Sem.run_pure, Result.andThen_ok, invoke, callFunc, run_program, h1, h2, h3, Bool.false_eq_true, if_false, Array.empty_append]

/-- Values of arguments and of what is caught. -/
theorem args_are (h : RR C β σ a w) {c : Call} {fo : Operand} {f' : Opd} {args' : List Opd} {g : FuncId} {caps : List SV} (hf : agreeO fo f' = true) (ha : all2 agreeO c.args.toList args' = true) (ht : σ.target f' = some (g, caps)) :
    ∃ us : List Value, a.eval fo = .func (.func g) #[] us.toArray ∧ (args'.map σ.ev ++ caps).length = (c.args.toList.map a.eval ++ us).length ∧
      ∀ (j : Nat) (x : SV) (v : Value), (args'.map σ.ev ++ caps)[j]? = some x → (c.args.toList.map a.eval ++ us)[j]? = some v → SLies w (okB C β σ.look w) β σ.look x v := by
  obtain ⟨us, h1, h2, h3⟩ := target_is ht (h.ev hf)
  obtain ⟨e1, e2⟩ := h.evs ha
  refine ⟨us, h1, by simp only [List.length_append, e1, h2], fun j x v hx hv => ?_⟩
  rw [List.getElem?_append] at hx hv
  rw [← e1] at hv
  split at hx
  · rename_i hlt; rw [if_pos hlt] at hv; exact e2 j x v hx hv
  · rename_i hlt; rw [if_neg hlt] at hv; exact h3 _ x v hx hv

theorem sound_callA {cl : Callee} (hS : Sound P cl) (h : RR C β σ a w) (hd : ∀ i, o.dst = some i → i < C.nt) {c : Call} {fo : Operand} {f' : Opd} {args' : List Opd} {g : FuncId} {caps : List SV} (ho : o.op = .call c) (hc : c.callee = .value fo)
    (hf : agreeO fo f' = true) (ha : all2 agreeO c.args.toList args' = true) (ht : σ.target f' = some (g, caps)) {pu : SV → Option PV} {okX : Nat → Prop} (hpu : Serves w okX β σ.look (okB C β σ.look w) pu) (hsub : ∀ b, okB C β σ.look w b → okX b) (hlt : ∀ b, okX b → b < w.heap.size)
    {vs : List SV} (hl : lendAll pu [] (args'.map σ.ev ++ caps) = some (vs, [])) {r : Res} (hr : cl g vs [] = some r) (hok : (∀ b, okX b → okB C β σ.look w b) ∨ (r.v.scalar = true ∧ r.rows = [])) {d keep : Nat} {e : Eff} (htook : took d keep r = some e)
    (hfresh : ∀ i, i < keep → σ.look (.loc d i) = none) : StepOK P C ((σ.insAll e.ins).put o.dst e.v) o a w := by
  obtain ⟨us, hfe, hlen, hargs⟩ := args_are h hf ha ht
  obtain ⟨hE, hcon⟩ := hS g vs [] r hr
  obtain ⟨_, _, l2, f2⟩ := lendAll_spec hpu hsub hl
  have hlent := f2 [] ⟨[], rfl⟩ (c.args.toList.map a.eval ++ us) hlen hargs
  have hcall := hcon w (c.args.toList.map a.eval ++ us) (blks β []) okX (fun b hb => ⟨hlt b hb, by intro i hi; simp at hi⟩) (by intro i j hi; simp at hi) (by intro i xs hx; simp at hx) (by rw [l2, hlen])
    (fun j x v hx hv => hlent j x v hx hv _ (by intro i hi; simp at hi))
  intro K hK Q
  unfold Oper.wp
  rw [run_call ho hc hfe hE, Oper.upon_enter]
  refine hcall.mono fun en w' hen => ?_
  obtain ⟨v, δ, rfl, haft⟩ := hen
  obtain ⟨β', h', hs⟩ := h.took haft hok htook hfresh
  exact hK β' _ _ (h'.put o.dst e.v v hd hs)

theorem serves_clean : Serves w (okB C β σ.look w) β σ.look (okB C β σ.look w) SV.clean := fun x v p hx hp => clean_lies hx p hp

theorem serves_pure (h : RR C β σ a w) : Serves w (okP C β σ.look w) β σ.look (okB C β σ.look w) σ.pure := fun x v p hx hp => pure_lies h hx p hp

/-! ### rows that are handed on for good -/

theorem lookH_freeze (k : Key) (x : PV) (l : List (Key × HObj)) (k' : Key) :
    lookH ((l.filter fun p => decide (p.1 ≠ k)).map fun p => (p.1, p.2.freeze k x)) k' = if k' = k then none else (lookH l k').map (HObj.freeze k x) := lookH_kill (HObj.freeze k x) k l k'

theorem freezeL_spec (k : Key) (x : PV) : ∀ (cs : List SV), (SV.freeze.freezeL k x cs).length = cs.length ∧ ∀ (j : Nat) (y : SV), (SV.freeze.freezeL k x cs)[j]? = some y → ∃ z, cs[j]? = some z ∧ y = z.freeze k x
  | [] => by simp [SV.freeze.freezeL]
  | c :: cs => by
    obtain ⟨h1, h2⟩ := freezeL_spec k x cs
    refine ⟨by simp [SV.freeze.freezeL, h1], fun j y hy => ?_⟩
    cases j with
    | zero => simp [SV.freeze.freezeL] at hy; exact ⟨c, rfl, hy.symm⟩
    | succ j => simp [SV.freeze.freezeL] at hy; simpa using h2 j y hy

theorem RR.freeze (h : RR C β σ a w) (k : Key) : RR C β (σ.freeze k) a w := by
  unfold St.freeze
  cases hk : σ.look k with
  | none => exact h
  | some o =>
    cases o with
    | box cs => exact h
    | row sz xs =>
      simp only
      generalize hσ : ({ sl := σ.sl.map fun p => (p.1, p.2.freeze k (.slice xs)), hp := (σ.hp.filter fun p => decide (p.1 ≠ k)).map fun p => (p.1, p.2.freeze k (.slice xs)) } : St) = σ'
      have hlook : ∀ k', σ'.look k' = if k' = k then none else (σ.look k').map (HObj.freeze k (.slice xs)) := fun k' => by
        rw [← hσ]; exact lookH_freeze k (.slice xs) σ.hp k'
      have hget : ∀ t, σ'.get t = (σ.get t).freeze k (.slice xs) := fun t => by
        rw [← hσ]; exact getS_map (SV.freeze k (.slice xs)) rfl σ.sl t
      have hsome : ∀ k' o', σ'.look k' = some o' → k' ≠ k ∧ ∃ o2, σ.look k' = some o2 ∧ o' = o2.freeze k (.slice xs) := fun k' o' ho => by
        rw [hlook] at ho
        by_cases e : k' = k
        · simp [e] at ho
        · simp only [e, if_false, Option.map_eq_some_iff] at ho
          obtain ⟨o2, h1, h2⟩ := ho
          exact ⟨e, o2, h1, h2.symm⟩
      obtain ⟨hke, hklo⟩ := h.row_lo hk
      have hok : ∀ b, okB C β σ.look w b → okB C β σ'.look w b := fun b hb =>
        ⟨hb.1, fun k' o' ho => by obtain ⟨_, o2, h1, _⟩ := hsome k' o' ho; exact hb.2.1 k' o2 h1, hb.2.2⟩
      have hkb : okB C β σ'.look w (β k).b := ⟨h.blk_lt hk, fun k' o' ho e => by
        obtain ⟨hne, o2, h1, _⟩ := hsome k' o' ho
        exact hne (h.inj k' k _ _ h1 hk e), fun hlt => by omega⟩
      have hrow : Lies w (okB C β σ'.look w) (.slice xs) (.slice (some ⟨(β k).b, 0, none⟩) xs.length (β k).c) := row_lies (h.objs k _ hk) hok hkb
      have hsim : ∀ o2 : HObj, o2.sim (o2.freeze k (.slice xs)) := fun o2 => by cases o2 <;> simp [HObj.freeze, HObj.sim]
      have hl : ∀ k' o', k' ≠ k → σ.look k' = some o' → σ'.look k' = some (o'.freeze k (.slice xs)) := fun k' o' hne ho => by rw [hlook, if_neg hne, ho]; rfl
      have mono : ∀ {x : SV} {v : Value}, SLies w (okB C β σ.look w) β σ.look x v → SLies w (okB C β σ'.look w) β σ'.look (x.freeze k (.slice xs)) v := by
        intro x v hx
        induction hx with
        | pv x v h => exact .pv _ _ (h.mono (fun b _ off u hu => hu) hok)
        | nils => exact .nils _
        | ptr k' off cs hk' =>
          have hne : k' ≠ k := fun e => by subst e; rw [hk] at hk'; cases hk'
          exact .ptr k' off _ (hl k' _ hne hk')
        | own k' sz' xs' hk' =>
          simp only [SV.freeze]
          by_cases e : k' = k
          · subst e
            rw [hk] at hk'; cases hk'
            rw [if_pos rfl]
            exact .pv _ _ hrow
          · rw [if_neg e]
            exact .own k' sz' xs' (hl k' _ e hk')
        | iown k' i off sz' xs' hk' hi =>
          simp only [SV.freeze]
          by_cases e : k' = k
          · rw [if_pos e]; exact .dead _
          · rw [if_neg e]; exact .iown k' i off sz' xs' (hl k' _ e hk') hi
        | ipv x off b o us hb h1 hat h => exact .ipv x off b o us (hok _ hb) h1 hat (fun j y hy => (h j y hy).mono (fun b _ off u hu => hu) hok)
        | agg cs us hl' _ h1 ih =>
          obtain ⟨e1, e2⟩ := freezeL_spec k (.slice xs) cs
          exact .agg _ us (by rw [e1, hl']) (fun j x u hx hu => by obtain ⟨z, hz, rfl⟩ := e2 j x hx; exact ih j z u hz hu) h1
        | tup cs us hl' _ ih =>
          obtain ⟨e1, e2⟩ := freezeL_spec k (.slice xs) cs
          exact .tup _ us (by rw [e1, hl']) (fun j x u hx hu => by obtain ⟨z, hz, rfl⟩ := e2 j x hx; exact ih j z u hz hu)
        | fn f cs us hl' _ ih =>
          obtain ⟨e1, e2⟩ := freezeL_spec k (.slice xs) cs
          exact .fn f _ us (by rw [e1, hl']) (fun j x u hx hu => by obtain ⟨z, hz, rfl⟩ := e2 j x hx; exact ih j z u hz hu)
        | dead v => exact .dead v
      refine ⟨h.tsz, h.dfs, ?_, ?_, ?_, ?_, ?_, ?_, h.size, h.frame, h.quiet⟩
      · intro k1 k2 o1 o2 h1 h2 e
        obtain ⟨_, o1', h1', _⟩ := hsome k1 o1 h1
        obtain ⟨_, o2', h2', _⟩ := hsome k2 o2 h2
        exact h.inj k1 k2 o1' o2' h1' h2' e
      · intro k' o' ho
        obtain ⟨hne, o2, h1, rfl⟩ := hsome k' o' ho
        have := h.objs k' o2 h1
        cases o2 with
        | box cs =>
          obtain ⟨arr, T, e1, e2, e3, e4⟩ := this
          refine ⟨arr, T, e1, by simpa using e2, e3, fun j x u hx hu => ?_⟩
          simp only [List.getElem?_map, Option.map_eq_some_iff] at hx
          obtain ⟨x', hx', rfl⟩ := hx
          exact mono (e4 j x' u hx' hu)
        | row sz' xs' =>
          obtain ⟨arr, T, e1, e2, e3, e4, e5⟩ := this
          refine ⟨arr, T, e1, e2, e3, e4, fun i j x y hx hy => ?_⟩
          obtain ⟨u, hu, hl⟩ := e5 i j x y hx hy
          exact ⟨u, hu, hl.mono (fun b _ off u hu => hu) hok⟩
      · intro k' o' ho hx
        obtain ⟨_, o2, h1, _⟩ := hsome k' o' ho
        exact h.lo k' o2 h1 hx
      · intro i hi
        obtain ⟨cs, hcs⟩ := h.ext1 i hi
        exact ⟨_, hl _ _ (fun e => hke i e.symm) hcs⟩
      · intro i o' ho
        obtain ⟨_, o2, h1, _⟩ := hsome _ o' ho
        exact h.ext2 i o2 h1
      · intro t
        rw [hget]
        exact mono (h.slots t)

theorem RR.freezeAll (ks : List Key) : ∀ {σ : St}, RR C β σ a w → RR C β (σ.freezeAll ks) a w := by
  induction ks with
  | nil => intro σ h; exact h
  | cons k ks ih => intro σ h; exact ih (h.freeze k)

/-! ### variables that were lent -/

theorem heldAll_spec : ∀ {ks : List Key} {ext : List (List PV)}, heldAll σ ks = some ext → ext.length = ks.length ∧ ∀ (i : Nat) (k : Key) (xs : List PV), ks[i]? = some k → ext[i]? = some xs → ∃ cs, σ.look k = some (.box cs) ∧ cleanAll cs = some xs
  | [], ext, h => by simp [heldAll] at h; subst h; simp
  | k :: ks, ext, h => by
    simp only [heldAll] at h
    cases hk : σ.look k with
    | none => rw [hk] at h; cases h
    | some o1 =>
      rw [hk] at h
      cases o1 with
      | row sz xs => cases h
      | box cs =>
        simp only at h
        cases hc : cleanAll cs with
        | none => rw [hc] at h; cases h
        | some xs =>
          cases hr : heldAll σ ks with
          | none => rw [hc, hr] at h; cases h
          | some r =>
            rw [hc, hr] at h; cases h
            obtain ⟨e1, e2⟩ := heldAll_spec hr
            refine ⟨by simp [e1], fun i k' xs' hk' hx' => ?_⟩
            cases i with
            | zero => simp at hk' hx'; subst hk'; subst hx'; exact ⟨cs, hk, hc⟩
            | succ i => exact e2 i k' xs' (by simpa using hk') (by simpa using hx')

/-- A lent variable as its caller's. -/
theorem box_is (h : RR C β σ a w) {k : Key} {cs : List SV} {xs : List PV} (hk : σ.look k = some (.box cs)) (hc : cleanAll cs = some xs) : BoxIs w (okB C β σ.look w) (β k).b xs := by
  obtain ⟨arr, T, g1, g2, g3, g4⟩ := h.objs k _ hk
  obtain ⟨e1, e2⟩ := cleanAll_lies (vs := cs) (us := arr.toList) (by simpa using g2.symm) (fun j x u hx hu => g4 j x u hx (by simpa using hu)) hc
  exact ⟨arr, T, g1, by simpa using e1.symm, g3, fun j x u hx hu => e2 j x u hx (by simpa using hu)⟩

theorem backAll_spec : ∀ {ks : List Key} {ext : List (List PV)} {σ σ' : St}, backAll σ ks ext = some σ' → ks.length = ext.length ∧ (∀ t, σ'.get t = σ.get t) ∧ (∀ k, k ∉ ks → σ'.look k = σ.look k) ∧
    ∀ (i : Nat) (k : Key) (xs : List PV), ks.Nodup → ks[i]? = some k → ext[i]? = some xs → (∃ cs, σ.look k = some (.box cs) ∧ cs.length = xs.length) ∧ σ'.look k = some (.box (xs.map .pv))
  | [], [], σ, σ', h => by simp [backAll] at h; subst h; simp
  | [], _ :: _, _, _, h => by simp [backAll] at h
  | _ :: _, [], _, _, h => by simp [backAll] at h
  | k :: ks, xs :: r, σ, σ', h => by
    simp only [backAll] at h
    cases hk : σ.look k with
    | none => rw [hk] at h; cases h
    | some o1 =>
      rw [hk] at h
      cases o1 with
      | row sz xs => cases h
      | box cs =>
        simp only at h
        split at h
        · rename_i hl
          obtain ⟨e1, e2, e3, e4⟩ := backAll_spec h
          refine ⟨by simp [e1], fun t => by rw [e2]; rfl, fun k' hk' => ?_, fun i k' xs' hnd hk' hx' => ?_⟩
          · simp at hk'
            rw [e3 k' hk'.2, St.look_over, if_neg hk'.1]
          · rw [List.nodup_cons] at hnd
            cases i with
            | zero =>
              simp at hk' hx'; subst hk'; subst hx'
              exact ⟨⟨cs, hk, hl⟩, by rw [e3 k hnd.1, St.look_over]; simp [hk]⟩
            | succ i =>
              simp at hk' hx'
              obtain ⟨⟨cs', h1, h2⟩, h3⟩ := e4 i k' xs' hnd.2 hk' hx'
              have hne : k' ≠ k := fun e => by subst e; exact hnd.1 (List.mem_of_getElem? hk')
              rw [St.look_over, if_neg hne] at h1
              exact ⟨⟨cs', h1, h2⟩, h3⟩
        · cases h

end
end Go.Av
