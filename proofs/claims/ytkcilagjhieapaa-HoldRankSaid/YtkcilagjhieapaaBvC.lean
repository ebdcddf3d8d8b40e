/- Calls. -/
import Derived.Test.YtkcilagjhieapaaBvB
set_option linter.unusedVariables false
set_option linter.unusedSimpArgs false
namespace Go.Av
section
variable {P : Program} {C : Ctx} {β : Key → Blk} {σ : St} {a : Act} {w : World} {o : Oper}

theorem target_is {ok : Nat → Prop} {lk : Key → Option HObj} {f' : Opd} {g : FuncId} {caps : List SV} (ht : σ.target f' = some (g, caps)) {v : Value} (hx : SLies w ok β lk (σ.ev f') v) :
    ∃ us : List Value, v = .func (.func g) #[] us.toArray ∧ caps.length = us.length ∧ ∀ (j : Nat) (x : SV) (u : Value), caps[j]? = some x → us[j]? = some u → SLies w ok β lk x u := by
  unfold St.target at ht
  generalize σ.ev f' = x at ht hx
  cases x with
  | pv p =>
    cases p with
    | fn f =>
      simp only [Option.some.injEq, Prod.mk.injEq] at ht
      obtain ⟨rfl, rfl⟩ := ht
      have := slies_pv hx
      cases this
      exact ⟨[], rfl, rfl, by simp⟩
    | _ => cases ht
  | fn f cs =>
    simp only [Option.some.injEq, Prod.mk.injEq] at ht
    obtain ⟨rfl, rfl⟩ := ht
    cases hx with
    | fn _ _ us hl hs => exact ⟨us, rfl, hl, hs⟩
  | _ => cases ht

theorem run_call {c : Call} {fo : Operand} {g : FuncId} {us : List Value} (ho : o.op = .call c) (hc : c.callee = .value fo) (hf : a.eval fo = .func (.func g) #[] us.toArray) (hE : Enters P g) :
    (execOp a.eval o).run P w = .ok (.enter g (c.args.toList.map a.eval ++ us).toArray) w := by
  obtain ⟨fn, h1, h2, h3⟩ := hE
  have e : (c.args.toList.map a.eval ++ us).toArray = c.args.map a.eval ++ us.toArray := by
    apply Array.ext'
    simp
  rw [e]
  simp only [execOp, ho, Sem.run_bind, resolve, hc, hf, Deferred.ofValue, Sem.run_pure, Result.andThen_ok, invoke, callFunc, run_program, h1, h2, h3, Bool.false_eq_true, if_false, Array.empty_append]

/-- Values of arguments and of what is caught. -/
theorem args_are (h : RR C β σ a w) {c : Call} {fo : Operand} {f' : Opd} {args' : List Opd} {g : FuncId} {caps : List SV} (hf : agreeO fo f' = true) (ha : all2 agreeO c.args.toList args' = true) (ht : σ.target f' = some (g, caps)) :
    ∃ us : List Value, a.eval fo = .func (.func g) #[] us.toArray ∧ (args'.map σ.ev ++ caps).length = (c.args.toList.map a.eval ++ us).length ∧
      ∀ (j : Nat) (x : SV) (v : Value), (args'.map σ.ev ++ caps)[j]? = some x → (c.args.toList.map a.eval ++ us)[j]? = some v → SLies w (okB C β σ.look w) β σ.look x v := by
  obtain ⟨us, h1, h2, h3⟩ := target_is ht (h.ev hf)
  obtain ⟨e1, e2⟩ := h.evs ha
  refine ⟨us, h1, by simp only [List.length_append, e1, h2], fun j x v hx hv => ?_⟩
  rw [List.getElem?_append] at hx hv
  rw [← e1] at hv
  split at hx
  · rename_i hlt; rw [if_pos hlt] at hv; exact e2 j x v hx hv
  · rename_i hlt; rw [if_neg hlt] at hv; exact h3 _ x v hx hv

theorem bare_nm {x : SV} : ∀ (f : Key → Option Key), x.bare = true → x.nm f = x := by
  intro f
  have gen : ∀ x : SV, x.bare = true → x.nm f = x := fun x => SV.rec (motive_1 := fun x => x.bare = true → x.nm f = x) (motive_2 := fun cs => SV.bare.bareL cs = true → SV.nm.nmL f cs = cs)
    (fun _ _ => rfl) (fun _ => rfl) (fun _ _ h => by simp [SV.bare] at h) (fun _ h => by simp [SV.bare] at h) (fun _ h => by simp [SV.bare] at h) (fun _ _ _ h => by simp [SV.bare] at h) (fun _ _ _ => rfl)
    (fun cs ih h => by simp only [SV.nm]; rw [ih (by simpa [SV.bare] using h)]) (fun cs ih h => by simp only [SV.nm]; rw [ih (by simpa [SV.bare] using h)]) (fun g cs ih h => by simp only [SV.nm]; rw [ih (by simpa [SV.bare] using h)]) (fun _ => rfl)
    (fun _ => rfl) (fun c cs ih1 ih2 h => by simp only [SV.bare.bareL, Bool.and_eq_true] at h; simp only [SV.nm.nmL]; rw [ih1 h.1, ih2 h.2]) x
  exact gen x

theorem tidy_lies {ok : Nat → Prop} {lk : Key → Option HObj} {x : SV} {v : Value} (hx : SLies w ok β lk x v) : SLies w ok β lk x.tidy v := by
  unfold SV.tidy
  split
  · rename_i p hp; exact .pv _ _ (clean_lies hx p hp)
  · exact hx
theorem tidyM_lies {m : Nat} {ok : Nat → Prop} {lk : Key → Option HObj} {x : SV} {v : Value} (hx : SLies w ok β lk x v) : SLies w ok β lk (tidyM m x) v := by
  unfold tidyM
  cases hm : (m == 2) with
  | true => exact tidy_lies hx
  | false => exact hx

theorem seen_lies (h : RR C β σ a w) {x : SV} {v : Value} (hx : SLies w (okB C β σ.look w) β σ.look x v) : SLies w (okP w) β σ.look (σ.seen x) v := by
  unfold St.seen
  split
  · rename_i p hp; exact .pv _ _ (pure_lies h hx p hp)
  · exact (tidy_lies hx).mono (fun b _ off u hu => hu) okB_okP (fun k o hk => ⟨o, hk, o.sim_refl, rfl⟩)

/-- A value that names nothing lies anywhere. -/
theorem bare_lies {ok : Nat → Prop} {lk lk' : Key → Option HObj} {β' : Key → Blk} {x : SV} {v : Value} (hx : SLies w ok β lk x v) (hb : x.bare = true) : SLies w ok β' lk' x v := by
  have := hx.nm' (lk' := lk') (β' := β') (fun _ => none) (fun b _ off u hu => hu) (fun b hb => hb) (fun k o k' _ _ e => by cases e)
  rwa [bare_nm _ hb] at this

theorem sound_callA {cl : Callee} (hS : Sound P cl) (h : RR C β σ a w) (hd : ∀ i, o.dst = some i → i < C.nt) {c : Call} {fo : Operand} {f' : Opd} {args' : List Opd} {g : FuncId} {caps : List SV} (ho : o.op = .call c) (hc : c.callee = .value fo)
    (hf : agreeO fo f' = true) (ha : all2 agreeO c.args.toList args' = true) (ht : σ.target f' = some (g, caps)) (tr : SV → SV) {okX : Nat → Prop} (htr : ∀ x v, SLies w (okB C β σ.look w) β σ.look x v → SLies w okX β σ.look (tr x) v) (hlt : ∀ b, okX b → b < w.heap.size)
    (hbare : ((args'.map σ.ev ++ caps).map tr).all SV.bare = true) {r : Res} (hr : cl g ((args'.map σ.ev ++ caps).map tr) [] = some r) (hok : (okX = okB C β σ.look w) ∨ (r.v.scalar = true ∧ r.rows = [])) {d keep : Nat} {e : Eff} (htook : took [] d keep r = some e)
    (hfresh : ∀ i, i < keep → σ.look (.loc d i) = none) : StepOK P C ((σ.insAll e.ins).put o.dst e.v) o a w := by
  obtain ⟨us, hfe, hlen, hargs⟩ := args_are h hf ha ht
  obtain ⟨hE, hcon⟩ := hS g _ [] r hr
  have hcall := hcon w (c.args.toList.map a.eval ++ us) (blks β []) okX (fun b hb => ⟨hlt b hb, by intro i hi; simp at hi⟩) (by intro i j b hi; simp at hi) (by intro i xs hx; simp at hx) (by rw [List.length_map, hlen])
    (fun j x v hx hv => by
      have hbx := List.all_eq_true.1 hbare x (List.mem_of_getElem? hx)
      simp only [List.getElem?_map, Option.map_eq_some_iff] at hx
      obtain ⟨y, hy, rfl⟩ := hx
      exact bare_lies (htr y v (hargs j y v hy hv)) hbx)
  intro K hK Q
  unfold Oper.wp
  rw [run_call ho hc hfe hE, Oper.upon_enter]
  refine hcall.mono fun en w' hen => ?_
  obtain ⟨v, δ, rfl, haft⟩ := hen
  have hx0 : r.ext = [] := List.eq_nil_of_length_eq_zero haft.len
  rcases hok with rfl | ⟨hs, hr0⟩
  · obtain ⟨β', h', hs⟩ := h.took (ln := []) (ext := []) rfl (by simp) haft htook hfresh (σ2 := σ) (by rw [hx0]; rfl)
    exact hK β' _ _ (h'.put o.dst e.v v hd hs)
  · have h' := h.grow haft.size haft.quiet (fun b hb => haft.frame b hb (by rintro ⟨i, hi, _⟩; simp at hi))
    have hv : SLies w' (fun _ => False) (fun _ => ⟨none, 0⟩) (fun _ => none) r.v v := scalarS_lies haft.val hs
    have : e.ins = [] ∧ SLies w' (okB C β σ.look w') β σ.look e.v v := by
      simp only [Av.took] at htook
      by_cases hk : (keep == 0) = true
      · rw [hk] at htook
        simp only [cond_true, Option.map_eq_some_iff] at htook
        obtain ⟨y, hy, rfl⟩ := htook
        refine ⟨rfl, ?_⟩
        have h0 : SLies w' (fun _ => False) (resβ (fun _ => ⟨none, 0⟩) (fun _ => ⟨none, 0⟩)) (resLk [] r.rows) r.v v := scalarS_lies haft.val hs
        exact flat_lies (fun b hb => hb.elim) (fun i o b ho hb => by simp [resLk, hr0] at ho) (fun i o ho => by simp [resLk, hr0] at ho) h0 y hy
      · simp only [Bool.not_eq_true] at hk
        rw [hk] at htook
        simp only [cond_false] at htook
        cases hle : decide (r.rows.length ≤ keep) with
        | false => rw [hle] at htook; cases htook
        | true =>
          rw [hle] at htook
          simp only [cond_true, Option.some.injEq] at htook
          subst htook
          refine ⟨by rw [hr0]; rfl, ?_⟩
          exact hv.nm' _ (fun b _ off u hu => hu) (fun b hb => hb.elim) (fun k o k' _ hk _ => by cases hk)
    refine hK β _ _ ?_
    rw [this.1]
    exact h'.put o.dst e.v v hd this.2

/-! ### rows that are handed on for good -/

theorem lookH_freeze (k : Key) (x : PV) (l : List (Key × HObj)) (k' : Key) :
    lookH ((l.filter fun p => decide (p.1 ≠ k)).map fun p => (p.1, p.2.freeze k x)) k' = if k' = k then none else (lookH l k').map (HObj.freeze k x) := lookH_kill (HObj.freeze k x) k l k'

theorem freezeL_spec (k : Key) (x : PV) : ∀ (cs : List SV), (SV.freeze.freezeL k x cs).length = cs.length ∧ ∀ (j : Nat) (y : SV), (SV.freeze.freezeL k x cs)[j]? = some y → ∃ z, cs[j]? = some z ∧ y = z.freeze k x
  | [] => by simp [SV.freeze.freezeL]
  | c :: cs => by
    obtain ⟨h1, h2⟩ := freezeL_spec k x cs
    refine ⟨by simp [SV.freeze.freezeL, h1], fun j y hy => ?_⟩
    cases j with
    | zero => simp [SV.freeze.freezeL] at hy; exact ⟨c, rfl, hy.symm⟩
    | succ j => simp [SV.freeze.freezeL] at hy; simpa using h2 j y hy

theorem Lies.one_of {w : World} {ok : Nat → Prop} {x : PV} {v : Value} (h : Lies w ok x v) (h1 : v.oneCell' = true) : x.one = true := by
  cases h <;> first | rfl | (simp [Value.oneCell'] at h1)

theorem RR.freeze (h : RR C β σ a w) (k : Key) : RR C β (σ.freeze k) a w := by
  unfold St.freeze
  cases hk : σ.look k with
  | none => exact h
  | some o =>
    cases hz : o.frozen with
    | none => simp only [Option.bind_some, hz]; exact h
    | some x =>
      simp only [Option.bind_some, hz]
      generalize hσ : ({ sl := σ.sl.map fun p => (p.1, p.2.freeze k x), hp := (σ.hp.filter fun p => decide (p.1 ≠ k)).map fun p => (p.1, p.2.freeze k x) } : St) = σ'
      have hlook : ∀ k', σ'.look k' = if k' = k then none else (σ.look k').map (HObj.freeze k x) := fun k' => by
        rw [← hσ]; exact lookH_freeze k x σ.hp k'
      have hget : ∀ t, σ'.get t = (σ.get t).freeze k x := fun t => by
        rw [← hσ]; exact getS_map (SV.freeze k x) rfl σ.sl t
      have hsome : ∀ k' o', σ'.look k' = some o' → k' ≠ k ∧ ∃ o2, σ.look k' = some o2 ∧ o' = o2.freeze k x := fun k' o' ho => by
        rw [hlook] at ho
        by_cases e : k' = k
        · simp [e] at ho
        · simp only [e, if_false, Option.map_eq_some_iff] at ho
          obtain ⟨o2, h1, h2⟩ := ho
          exact ⟨e, o2, h1, h2.symm⟩
      have hok : ∀ b, okB C β σ.look w b → okB C β σ'.look w b := fun b hb =>
        ⟨hb.1, fun k' o' ho => by obtain ⟨_, o2, h1, _⟩ := hsome k' o' ho; exact hb.2.1 k' o2 h1, hb.2.2⟩
      have hkb : ∀ b, (β k).b = some b → okB C β σ'.look w b := fun b hb => ⟨h.blk_lt hk hb, fun k' o' ho e => by
        obtain ⟨hne, o2, h1, _⟩ := hsome k' o' ho
        exact hne (h.inj k' k _ _ b h1 hk e hb), fun hlt => by
          rcases h.lo k _ b hk hb with q | q
          · omega
          · exact .inr q⟩
      have hsim : ∀ o2 : HObj, o2.sim (o2.freeze k x) := fun o2 => by cases o2 <;> simp [HObj.freeze, HObj.sim]
      have hl : ∀ k' o', k' ≠ k → σ.look k' = some o' → σ'.look k' = some (o'.freeze k x) := fun k' o' hne ho => by rw [hlook, if_neg hne, ho]; rfl
      have mono : ∀ {x0 : SV} {v : Value}, SLies w (okB C β σ.look w) β σ.look x0 v → SLies w (okB C β σ'.look w) β σ'.look (x0.freeze k x) v := by
        intro x0 v hx
        induction hx with
        | pv x1 v h => exact .pv _ _ (h.mono (fun b _ off u hu => hu) hok)
        | nils => exact .nils _
        | ptr k' off cs b hk' hb =>
          simp only [SV.freeze]
          by_cases e : k' = k
          · subst e
            rw [hk] at hk'; cases hk'
            rw [if_pos rfl]
            simp only [HObj.frozen, Option.map_eq_some_iff] at hz
            obtain ⟨ys, hys, rfl⟩ := hz
            obtain ⟨b2, arr, T, e0, e1, e2, e3, e4⟩ := h.objs k' _ hk
            rw [hb] at e0; cases e0
            obtain ⟨p1, p2⟩ := pures_lie (us := arr.toList) hys ⟨by simpa using e2.symm, fun u hu => e3 u (by simpa using hu), fun j y u hy hu => e4 j y u hy (by simpa using hu)⟩
            have hat : ∀ j, j < ys.length → arr[j]? = some ((arr[j]?).getD default) := fun j hj => by
              have : j < arr.size := by rw [p1] at hj; simpa using hj
              rw [Array.getElem?_eq_getElem this]; rfl
            have := SLies.ipv (w := w) (ok := okB C β σ'.look w) (β := β) (lk := σ'.look) (.agg ys) off b 0 (fun j => (arr[j]?).getD default) (hkb b hb) (fun y hy => ?_) (fun j hj => ?_) (fun j y hy => ?_)
            · simpa using this
            · obtain ⟨j, hj, rfl⟩ := List.getElem_of_mem hy
              have hj' : j < ys.length := hj
              have hL := p2 j _ _ (List.getElem?_eq_getElem hj') (by rw [Array.getElem?_toList]; exact hat j hj')
              refine hL.one_of (e3 _ ?_)
              exact Array.mem_of_getElem? (hat j hj')
            · have hj' : j < ys.length := hj
              simp only [World.cell?, e1]
              simpa using hat j hj'
            · have hy : ys[j]? = some y := hy
              have hj' := (List.getElem?_eq_some_iff.1 hy).1
              exact (p2 j y _ hy (by rw [Array.getElem?_toList]; exact hat j hj')).mono (fun b _ off u hu => hu) hok
          · rw [if_neg e]
            exact .ptr k' off _ b (hl k' _ e hk') hb
        | own k' sz' xs' b hk' hb =>
          simp only [SV.freeze]
          by_cases e : k' = k
          · subst e
            rw [hk] at hk'; cases hk'
            rw [if_pos rfl]
            cases hz
            exact .pv _ _ (row_lies (h.objs k' _ hk) hok hb (hkb b hb))
          · rw [if_neg e]
            exact .own k' sz' xs' b (hl k' _ e hk') hb
        | ownN k' sz' ad hk' hb =>
          simp only [SV.freeze]
          by_cases e : k' = k
          · subst e
            rw [hk] at hk'; cases hk'
            rw [if_pos rfl]
            cases hz
            exact .pv _ _ (nil_lies _)
          · rw [if_neg e]
            exact .ownN k' sz' ad (hl k' _ e hk') hb
        | mp k' kk es b hk' hb =>
          simp only [SV.freeze]
          by_cases e : k' = k
          · rw [if_pos e]; exact .dead _
          · rw [if_neg e]; exact .mp k' kk es b (hl k' _ e hk') hb
        | iown k' i off sz' xs' b hk' hb hi =>
          simp only [SV.freeze]
          by_cases e : k' = k
          · rw [if_pos e]; exact .dead _
          · rw [if_neg e]; exact .iown k' i off sz' xs' b (hl k' _ e hk') hb hi
        | ipv x1 off b o us hb h1 hat h => exact .ipv x1 off b o us (hok _ hb) h1 hat (fun j y hy => (h j y hy).mono (fun b _ off u hu => hu) hok)
        | agg cs us hl' _ h1 ih =>
          obtain ⟨e1, e2⟩ := freezeL_spec k x cs
          exact .agg _ us (by rw [e1, hl']) (fun j x1 u hx hu => by obtain ⟨z, hz', rfl⟩ := e2 j x1 hx; exact ih j z u hz' hu) h1
        | tup cs us hl' _ ih =>
          obtain ⟨e1, e2⟩ := freezeL_spec k x cs
          exact .tup _ us (by rw [e1, hl']) (fun j x1 u hx hu => by obtain ⟨z, hz', rfl⟩ := e2 j x1 hx; exact ih j z u hz' hu)
        | fn f cs us hl' _ ih =>
          obtain ⟨e1, e2⟩ := freezeL_spec k x cs
          exact .fn f _ us (by rw [e1, hl']) (fun j x1 u hx hu => by obtain ⟨z, hz', rfl⟩ := e2 j x1 hx; exact ih j z u hz' hu)
        | dead v => exact .dead v
      refine ⟨h.tsz, h.dfs, ?_, ?_, ?_, ?_, ?_, h.size, h.frame, h.quiet⟩
      · intro k1 k2 o1 o2 b h1 h2 e1 e2
        obtain ⟨_, o1', h1', _⟩ := hsome k1 o1 h1
        obtain ⟨_, o2', h2', _⟩ := hsome k2 o2 h2
        exact h.inj k1 k2 _ _ b h1' h2' e1 e2
      · intro k' o' ho
        obtain ⟨hne, o2, h1, rfl⟩ := hsome k' o' ho
        have := h.objs k' o2 h1
        cases o2 with
        | box cs =>
          obtain ⟨b, arr, T, e0, e1, e2, e3, e4⟩ := this
          refine ⟨b, arr, T, e0, e1, by simpa using e2, e3, fun j x u hx hu => ?_⟩
          simp only [List.getElem?_map, Option.map_eq_some_iff] at hx
          obtain ⟨x', hx', rfl⟩ := hx
          exact mono (e4 j x' u hx' hu)
        | row sz' xs' =>
          rcases this with hb | ⟨b, arr, T, e0, e1, e2, e3, e4, e5⟩
          · exact .inl hb
          · refine .inr ⟨b, arr, T, e0, e1, e2, e3, e4, fun i j x y hx hy => ?_⟩
            obtain ⟨u, hu, hl⟩ := e5 i j x y hx hy
            exact ⟨u, hu, hl.mono (fun b _ off u hu => hu) hok⟩
        | map kk es =>
          obtain ⟨b, ents, clock, e0, e1, e2⟩ := this
          exact ⟨b, ents, clock, e0, e1, e2.mono (fun b _ off u hu => hu) hok⟩
      · intro k' o' b ho hx
        obtain ⟨_, o2, h1, _⟩ := hsome k' o' ho
        exact h.lo k' o2 b h1 hx
      · intro i o' ho
        obtain ⟨_, o2, h1, rfl⟩ := hsome _ o' ho
        obtain ⟨o0, q1, q2, q3⟩ := h.ext2 i o2 h1
        exact ⟨o0, q1, HObj.sim_trans q2 (hsim o2), q3⟩
      · intro t
        rw [hget]
        exact mono (h.slots t)

theorem RR.freezeAll (ks : List Key) : ∀ {σ : St}, RR C β σ a w → RR C β (σ.freezeAll ks) a w := by
  induction ks with
  | nil => intro σ h; exact h
  | cons k ks ih => intro σ h; exact ih (h.freeze k)

theorem sound_callB {cl : Callee} (hS : Sound P cl) (h : RR C β σ a w) (hd : ∀ i, o.dst = some i → i < C.nt) {c : Call} {fo : Operand} {f' : Opd} {args' : List Opd} (ho : o.op = .call c) (hc : c.callee = .value fo)
    (hf : agreeO fo f' = true) (ha : all2 agreeO c.args.toList args' = true) {keep m : Nat} {fz ln : List Key} (hnd : ln.Nodup) {σ' : St} (hb : bstep cl σ o.dst (.call keep m f' args' fz ln) = some σ') : StepOK P C σ' o a w := by
  unfold bstep at hb
  cases hdst : o.dst with
  | none => simp only [hdst] at hb; cases hb
  | some d =>
  simp only [hdst] at hb
  have h := (h.freezeAll fz).killAll ((List.range keep).map (.loc d))
  have hfr : ∀ i, i < keep → ((σ.freezeAll fz).killAll ((List.range keep).map (.loc d))).look (.loc d i) = none := fun i hi => look_killAll _ _ _ (by simp; exact hi)
  revert h hb hfr
  generalize (σ.freezeAll fz).killAll ((List.range keep).map (.loc d)) = σ
  intro hb h hfr
  cases ht : σ.target f' with
  | none => simp only [ht] at hb; cases hb
  | some p =>
  obtain ⟨g, caps⟩ := p
  simp only [ht] at hb
  cases hh : heldAll σ ln ln with
  | none => simp only [hh] at hb; cases hb
  | some ext =>
  simp only [hh] at hb
  cases hr : cl g ((args'.map σ.ev ++ caps).map fun v => (tidyM m v).nm (toX ln)) ext with
  | none => simp only [hr] at hb; cases hb
  | some r =>
  simp only [hr] at hb
  cases htk : took ln d keep r with
  | none => simp only [htk] at hb; cases hb
  | some e =>
  simp only [htk] at hb
  cases hbk : overAll (fromX ln d keep) (σ.killAll (goneOf ln r.ext)) ln r.ext with
  | none => simp only [hbk] at hb; cases hb
  | some σ2 =>
  simp only [hbk, Option.some.injEq] at hb
  subst hb
  obtain ⟨us, hfe, hlen, hargs⟩ := args_are h hf ha ht
  obtain ⟨hE, hcon⟩ := hS g _ ext r hr
  obtain ⟨e1, e2⟩ := heldAll_spec hh
  have hkx : ∀ (i : Nat), i < ext.length → ∃ k o1, ln[i]? = some k ∧ σ.look k = some o1 ∧ blks β ln i = β k := by
    intro i hi
    have g1 : ln[i]? = some (ln[i]'(by omega)) := List.getElem?_eq_getElem (by omega)
    obtain ⟨o1, q1, q2⟩ := e2 i _ g1
    exact ⟨_, o1, g1, q1, blks_get g1⟩
  have hcall := hcon w (c.args.toList.map a.eval ++ us) (blks β ln) (okB C β σ.look w)
    (fun b hb => ⟨hb.1, fun i hi e => by obtain ⟨k, o1, _, g2, g3⟩ := hkx i hi; exact hb.2.1 k _ g2 (g3 ▸ e)⟩)
    (fun i j b hi hj e1 e2 => by
      obtain ⟨k, o1, g1, g2, g3⟩ := hkx i hi
      obtain ⟨k', o1', g1', g2', g3'⟩ := hkx j hj
      rw [g3] at e1; rw [g3'] at e2
      have := h.inj k k' _ _ b g2 g2' e1 e2
      subst this
      exact (List.getElem?_inj (i := i) (j := j) (List.getElem?_eq_some_iff.1 g1).1 hnd).1 (g1.trans g1'.symm))
    (fun i o1 hx => lend_objs h hh hx)
    (by rw [List.length_map, hlen])
    (fun j x v hx hv => by
      simp only [List.getElem?_map, Option.map_eq_some_iff] at hx
      obtain ⟨y, hy, rfl⟩ := hx
      exact lend_lies hh (fun b hb => hb) (tidyM_lies (hargs j y v hy hv)))
  intro K hK Q
  unfold Oper.wp
  rw [run_call ho hc hfe hE, Oper.upon_enter]
  refine hcall.mono fun en w' hen => ?_
  obtain ⟨v, δ, rfl, haft⟩ := hen
  obtain ⟨β', h', hs⟩ := h.took hh hnd haft htk hfr hbk
  have h3 := h'.put o.dst e.v v hd hs
  rw [hdst] at h3
  have h4 := hK β' _ _ h3
  rw [← hdst] at h4
  exact h4

theorem kill_some {σ : St} {k k' : Key} {o1 : HObj} (h : (σ.kill k).look k' = some o1) : ∃ o2, σ.look k' = some o2 := by
  rw [St.look_kill] at h
  by_cases e : k' = k
  · simp [e] at h
  · simp only [e, if_false, Option.map_eq_some_iff] at h
    obtain ⟨o2, h1, _⟩ := h
    exact ⟨o2, h1⟩

theorem killAll_some (ks : List Key) : ∀ {σ : St} {k' : Key} {o1 : HObj}, (σ.killAll ks).look k' = some o1 → ∃ o2, σ.look k' = some o2 := by
  induction ks with
  | nil => intro σ k' o1 h; exact ⟨_, h⟩
  | cons k ks ih => intro σ k' o1 h; obtain ⟨o2, h2⟩ := ih h; exact kill_some h2

end
end Go.Av
