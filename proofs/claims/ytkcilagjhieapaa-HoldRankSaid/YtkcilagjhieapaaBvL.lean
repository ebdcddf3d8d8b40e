/- Functions. -/
import Derived.Test.YtkcilagjhieapaaBvK
set_option linter.unusedVariables false
set_option linter.unusedSimpArgs false
namespace Go.Av
section
variable {P : Program} {C : Ctx} {β : Key → Blk} {σ : St} {a : Act} {w : World} {cl : Callee}

def agreeR (P : Program) : ResultVar → RV → Bool
  | .tmp t, .tmp t' => t == t'
  | .cell x t, .cell x' agg n => x == x' && aggT P t == some (agg, n)
  | _, _ => false

/-- How a result is read. -/
def Reads (a : Act) (f : ResultVar → Sem Value) : Prop := (∀ u, f (.tmp u) = pure (a.tmps.getD u undef)) ∧ ∀ x t, f (.cell x t) = (do loadVar t (← asAddr (a.tmps.getD x undef)))

theorem resVal_run (h : RR C β σ a w) {r : ResultVar} {r' : RV} {v : SV} (hag : agreeR P r r' = true) (hv : resVal cl σ r' = some v) :
    ∃ u, (∀ f, Reads a f → (f r).run P w = .ok u w) ∧ SLies w (okB C β σ.look w) β σ.look v u := by
  unfold agreeR at hag
  split at hag
  · rename_i t t'
    simp only [beq_iff_eq] at hag; subst hag
    simp only [resVal, Option.some.injEq] at hv; subst hv
    exact ⟨_, fun f hf => by rw [hf.1]; simp, h.slots t⟩
  · rename_i x t x' agg n
    simp only [Bool.and_eq_true, beq_iff_eq] at hag
    obtain ⟨rfl, ht⟩ := hag
    simp only [resVal, Option.map_eq_some_iff] at hv
    obtain ⟨e, he, rfl⟩ := hv
    have : loadS σ agg n (σ.get x) = some e.v := by
      revert he
      simp only [aeff, loadS, St.ev]
      generalize σ.get x = xv
      intro he
      cases xv <;> simp only at he <;> try (cases he; done)
      · split at he
        · rename_i cs1 hk1
          split at he
          · rename_i hle; simp only [Option.map_eq_some_iff] at he; obtain ⟨v, hv, rfl⟩ := he; simp only [hk1, hle, if_true]; exact hv
          · cases he
        · cases he
      · split at he
        · rename_i sz1 xs1 hk1
          split at he
          · rename_i e2 he2
            split at he
            · rename_i hle; simp only [Option.map_eq_some_iff] at he; obtain ⟨v, hv, rfl⟩ := he; simp only [hk1, he2, hle, if_true]; exact hv
            · cases he
          · cases he
        · cases he
      · split at he
        · rename_i hle; simp only [Option.map_eq_some_iff] at he; obtain ⟨v, hv, rfl⟩ := he; simp only [hle, if_true]; exact hv
        · cases he
    obtain ⟨b, o, us, hxe, hn, hcs, u, hu, hs⟩ := behind h (h.slots x) this
    subst hn
    refine ⟨u, fun f hf => ?_, hs⟩
    rw [hf.2, hxe]
    simp [asAddr, run_loadVar' ht hcs hu]
  · cases hag

theorem resVals_run (h : RR C β σ a w) :
    ∀ {rs : List ResultVar} {rs' : List RV} {vs : List SV}, all2 (agreeR P) rs rs' = true → resVals cl σ rs' = some vs → ∃ us, (∀ f, Reads a f → (rs.mapM f).run P w = .ok us w) ∧ vs.length = us.length ∧ ∀ (j : Nat) (x : SV) (u : Value), vs[j]? = some x → us[j]? = some u → SLies w (okB C β σ.look w) β σ.look x u
  | [], [], vs, _, hv => by simp [resVals] at hv; subst hv; exact ⟨[], by simp, rfl, by simp⟩
  | [], _ :: _, _, hag, _ => by simp [all2] at hag
  | _ :: _, [], _, hag, _ => by simp [all2] at hag
  | r :: rs, r' :: rs', vs, hag, hv => by
    simp only [all2, Bool.and_eq_true] at hag
    simp only [resVals] at hv
    split at hv
    · rename_i v vs' h1 h2
      simp only [Option.some.injEq] at hv; subst hv
      obtain ⟨u, e1, e2⟩ := resVal_run h hag.1 h1
      obtain ⟨us, q1, q2, q3⟩ := resVals_run h hag.2 h2
      refine ⟨u :: us, fun f hf => by simp [List.mapM_cons, e1 f hf, q1 f hf], by simp [q2], fun j x u' hx hu => ?_⟩
      cases j with
      | zero => simp at hx hu; subst hx; subst hu; exact e2
      | succ j => exact q3 j x u' (by simpa using hx) (by simpa using hu)
    · cases hv

theorem toR_out {out : List Key} {k k' : Key} (h : toR out k = some k') : (∃ i, k = .ext i ∧ k' = .ext i) ∨ ∃ i, k' = .res i ∧ out[i]? = some k := by
  unfold toR at h
  split at h
  · rename_i i; cases h; exact .inl ⟨i, rfl, rfl⟩
  · simp only [Option.map_eq_some_iff] at h
    obtain ⟨i, hi, rfl⟩ := h
    exact .inr ⟨i, rfl, idxOf_spec hi⟩

/-- Leaving a function. -/
theorem leave_sound (h : RR C β σ a w) {fn : Func} {fd : Fd} (hag : all2 (agreeR P) fn.results.toList fd.res = true) (hout : fd.out.Nodup) (hloc : ∀ k ∈ fd.out, ∀ i, k ≠ .ext i) {r : Res} (hl : leave cl fd C.ext.length σ = some r) :
    ∃ v δ, (results fn a.tmps).run P w = .ok v w ∧ After { C with nt := 0 } w r v δ := by
  unfold leave at hl
  split at hl
  · cases hl
  · rename_i vs hvs
    simp only [Option.some.injEq] at hl
    obtain ⟨us, hr, hlen, hs⟩ := resVals_run h hag hvs
    have hv : ∃ v, (results fn a.tmps).run P w = .ok v w ∧ SLies w (okB C β σ.look w) β σ.look (resOf vs) v := by
      unfold results
      rw [show fn.results = fn.results.toList.toArray by simp, List.mapM_toArray]
      simp only [Sem.run_bind, Sem.run_map]
      rw [hr _ ⟨fun u => rfl, fun x t => rfl⟩]
      match vs, us, hlen, hs with
      | [x], [u], _, hs => exact ⟨u, by simp, hs 0 x u rfl rfl⟩
      | [], [], _, hs => exact ⟨.tuple #[], by simp, SLies.tup (w := w) (ok := okB C β σ.look w) (β := β) (lk := σ.look) [] [] rfl (by simp)⟩
      | x :: y :: xs, u :: v :: us, hlen, hs => exact ⟨.tuple (u :: v :: us).toArray, by simp, .tup _ _ hlen hs⟩
    obtain ⟨v, hrv, hsv⟩ := hv
    let δ : Nat → Blk := fun i => β (fd.out.getD i (.res 0))
    have hδ : ∀ i k, fd.out[i]? = some k → δ i = β k := fun i k hi => by simp [δ, List.getD, hi]
    have hrows : r.rows = fd.out.map fun k => (σ.look k).map (HObj.nm (toR fd.out)) := by rw [← hl]
    have hexts : r.ext = (List.range C.ext.length).map fun i => (σ.look (.ext i)).map (HObj.nm (toR fd.out)) := by rw [← hl]
    have hval : r.v = (resOf vs).nm (toR fd.out) := by rw [← hl]
    -- the objects that are handed back
    have T1 : ∀ K o, resLk r.ext r.rows K = some o → ∃ k o1, toR fd.out k = some K ∧ σ.look k = some o1 ∧ o = o1.nm (toR fd.out) ∧ resβ C.γ δ K = β k := by
      intro K o hK
      cases K with
      | loc _ _ => cases hK
      | ext i =>
        simp only [resLk] at hK
        have hK := join_some hK
        rw [hexts, List.getElem?_map] at hK
        simp only [Option.map_eq_some_iff] at hK
        obtain ⟨j, hj, hj2⟩ := hK
        have : j = i := by
          have := List.getElem?_eq_some_iff.1 hj
          obtain ⟨hlt, e⟩ := this
          simpa using e.symm
        subst this
        obtain ⟨o1, h1, h2⟩ := hj2
        obtain ⟨o0, q1, q2, q3⟩ := h.ext2 j o1 h1
        exact ⟨.ext j, o1, rfl, h1, h2.symm, q3.symm⟩
      | res i =>
        simp only [resLk] at hK
        have hK := join_some hK
        rw [hrows, List.getElem?_map] at hK
        simp only [Option.map_eq_some_iff] at hK
        obtain ⟨k, hk, o1, h1, h2⟩ := hK
        refine ⟨k, o1, ?_, h1, h2.symm, by show δ i = β k; exact hδ i k hk⟩
        have hne := hloc k (List.mem_of_getElem? hk)
        have hidx : fd.out.idxOf? k = some i := by
          cases hx : fd.out.idxOf? k with
          | none =>
            have : k ∉ fd.out := by
              simp only [List.idxOf?, List.findIdx?_eq_none_iff] at hx
              intro hm; have := hx k hm; simp at this
            exact absurd (List.mem_of_getElem? hk) this
          | some j =>
            have hj := idxOf_spec hx
            have := (List.getElem?_inj (i := j) (j := i) (List.getElem?_eq_some_iff.1 hj).1 hout).1 (hj.trans hk.symm)
            rw [this]
        cases k with
        | ext j => exact absurd rfl (hne j)
        | loc d j => simp [toR, hidx]
        | res j => simp [toR, hidx]
    have T2 : ∀ k o K, σ.look k = some o → toR fd.out k = some K → resLk r.ext r.rows K = some (o.nm (toR fd.out)) ∧ resβ C.γ δ K = β k := by
      intro k o K hk hf
      rcases toR_out hf with ⟨i, rfl, rfl⟩ | ⟨i, rfl, hi⟩
      · obtain ⟨o0, q1, q2, q3⟩ := h.ext2 i o hk
        have hlt := (List.getElem?_eq_some_iff.1 q1).1
        refine ⟨?_, q3.symm⟩
        show (r.ext[i]?).join = _
        rw [hexts, List.getElem?_map, List.getElem?_range hlt]
        simp only [Option.map_some, hk]
        rfl
      · refine ⟨?_, hδ i k hi⟩
        show (r.rows[i]?).join = _
        rw [hrows, List.getElem?_map, hi]
        simp only [Option.map_some, hk]
        rfl
    have hok : ∀ b, okB C β σ.look w b → okB { C with nt := 0 } (resβ C.γ δ) (resLk r.ext r.rows) w b := by
      intro b hb
      refine ⟨hb.1, fun K o hK e => ?_, hb.2.2⟩
      obtain ⟨k, o1, _, h1, _, h3⟩ := T1 K o hK
      rw [h3] at e
      exact hb.2.1 k o1 h1 e
    refine ⟨v, δ, hrv, ⟨h.size, h.frame, ?_, ?_, ?_, ?_, ?_, ?_, h.quiet⟩⟩
    · intro K1 K2 o1 o2 b h1 h2 e1 e2
      obtain ⟨k1, p1, f1, g1, _, q1⟩ := T1 K1 o1 h1
      obtain ⟨k2, p2, f2, g2, _, q2⟩ := T1 K2 o2 h2
      have e1 : (resβ C.γ δ K1).b = some b := e1
      have e2 : (resβ C.γ δ K2).b = some b := e2
      rw [q1] at e1; rw [q2] at e2
      have := h.inj k1 k2 _ _ b g1 g2 e1 e2
      subst this
      rw [f1] at f2; cases f2; rfl
    · intro K o b hK hb
      obtain ⟨k, o1, _, h1, _, h3⟩ := T1 K o hK
      have hb : (resβ C.γ δ K).b = some b := hb
      rw [h3] at hb
      exact h.lo k o1 b h1 hb
    · rw [hexts]; simp
    · intro i o hi
      obtain ⟨k, o1, f1, h1, rfl, h3⟩ := T1 _ o hi
      rcases toR_out f1 with ⟨j, rfl, e⟩ | ⟨j, e, _⟩
      · cases e
        obtain ⟨o0, q1, q2, _⟩ := h.ext2 i o1 h1
        exact ⟨o0, q1, HObj.sim_trans q2 (o1.nm_sim _)⟩
      · cases e
    · intro K o hK
      obtain ⟨k, o1, f1, h1, rfl, h3⟩ := T1 K o hK
      have h3 : resβ ({ C with nt := 0 } : Ctx).γ δ K = β k := h3
      rw [h3]
      refine (h.objs k o1 h1).nm' (toR fd.out) (fun b _ off u hu => hu) hok (fun _ _ => rfl) (fun k2 o2 k2' _ h2 hf2 => ?_)
      obtain ⟨t1, t2⟩ := T2 k2 o2 k2' h2 hf2
      exact ⟨_, t1, o2.nm_sim _, t2⟩
    · rw [hval]
      refine hsv.nm' (toR fd.out) (fun b _ off u hu => hu) hok (fun k2 o2 k2' _ h2 hf2 => ?_)
      obtain ⟨t1, t2⟩ := T2 k2 o2 k2' h2 hf2
      exact ⟨_, t1, o2.nm_sim _, t2⟩

end
end Go.Av
