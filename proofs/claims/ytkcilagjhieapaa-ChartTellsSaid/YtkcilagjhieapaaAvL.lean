/- Functions. -/
import Derived.Test.YtkcilagjhieapaaAvK
set_option linter.unusedVariables false
set_option linter.unusedSimpArgs false
namespace Go.Av
section
variable {P : Program} {C : Ctx} {β : Key → Blk} {σ : St} {a : Act} {w : World} {cl : Callee}

/-! ### values without names, and whose rows they hold -/

mutual
theorem pure_names : ∀ {v : SV} {p : PV} {k : Key}, σ.pure v = some p → v.names k = true → k ∈ ownsOf [v]
  | .pv x, p, k, _, hn => by simp [SV.names] at hn
  | .nils, p, k, _, hn => by simp [SV.names] at hn
  | .own k', p, k, _, hn => by simp [SV.names] at hn; subst hn; simp [ownsOf]
  | .agg cs, p, k, h, hn => by
    simp only [St.pure, Option.map_eq_some_iff] at h
    obtain ⟨xs, hx, _⟩ := h
    simp only [ownsOf, List.append_nil]
    exact pureL_names hx (by simpa [SV.names] using hn)
  | .fn f [], p, k, _, hn => by simp [SV.names, SV.names.namesL] at hn
  | .fn f (c :: cs), p, k, h, _ => by simp [St.pure] at h
  | .ptr _ _, p, k, h, _ => by simp [St.pure] at h
  | .iown _ _ _, p, k, h, _ => by simp [St.pure] at h
  | .ipv _ _, p, k, h, _ => by simp [St.pure] at h
  | .tup _, p, k, h, _ => by simp [St.pure] at h
  | .dead, p, k, h, _ => by simp [St.pure] at h
theorem pureL_names : ∀ {cs : List SV} {xs : List PV} {k : Key}, St.pure.pureL σ cs = some xs → SV.names.namesL k cs = true → k ∈ ownsOf.ownsA cs
  | [], xs, k, _, hn => by simp [SV.names.namesL] at hn
  | c :: cs, xs, k, h, hn => by
    obtain ⟨hne, x, ys, hx, hy, rfl⟩ := pureL_cons.1 h
    simp only [SV.names.namesL, Bool.or_eq_true] at hn
    rcases hn with hn | hn
    · have := pure_names hx hn
      cases c with
      | own k' => simp [ownsOf] at this; subst this; simp [ownsOf.ownsA]
      | agg l => exact absurd rfl (hne l)
      | _ => simp [ownsOf] at this
    · have := pureL_names hy hn
      cases c <;> simp [ownsOf.ownsA, this]
end

theorem pure_lies2 (h : RR C β σ a w) {ok' : Nat → Prop} (h1 : ∀ b, okB C β σ.look w b → ok' b) {x : SV} {v : Value} (hx : SLies w (okB C β σ.look w) β σ.look x v) : (∀ k, x.names k = true → ok' (β k).b) → ∀ p, σ.pure x = some p → Lies w ok' p v := by
  induction hx with
  | pv x v hl => intro _ p hp; simp only [St.pure, Option.some.injEq] at hp; subst hp; exact hl.mono (fun b _ off u hu => hu) h1
  | nils =>
    intro _ p hp; simp only [St.pure, Option.some.injEq] at hp; subst hp
    exact .slice [] _ 0 0 0 (fun _ _ => undef) rfl (Nat.le_refl _) (by simp) (by simp) (by intro i j hi; omega) (by omega) (by simp)
  | ptr k off cs hk => intro _ p hp; simp [St.pure] at hp
  | own k sz xs hk =>
    intro hn p hp
    simp only [St.pure, hk, Option.some.injEq] at hp; subst hp
    exact row_lies (h.objs k _ hk) h1 (hn k (by simp [SV.names]))
  | iown k i off sz xs hk hi => intro _ p hp; simp [St.pure] at hp
  | ipv x off b o us hb h1 hat hl => intro _ p hp; simp [St.pure] at hp
  | agg cs us hl hs hone ih =>
    intro hn p hp
    simp only [St.pure, Option.map_eq_some_iff] at hp
    obtain ⟨xs, hxs, rfl⟩ := hp
    obtain ⟨e1, e2⟩ := pureL_spec hxs
    have hlie : ∀ (j : Nat) (x : PV) (u : Value), xs[j]? = some x → us[j]? = some u → Lies w ok' x u := fun j x u hx hu => by
      have hj : j < cs.length := by rw [← e1]; exact (List.getElem?_eq_some_iff.1 hx).1
      exact ih j cs[j] u (by simp [hj]) hu (fun k hk => hn k (by simpa [SV.names] using names_mem (j := j) (x := cs[j]) (by simp [hj]) hk)) x (e2 j _ x (by simp [hj]) hx)
    refine .agg xs us (by rw [e1, hl]) (fun x hx => ?_) hlie
    obtain ⟨j, hj⟩ := List.mem_iff_getElem?.1 hx
    have hjl : j < us.length := by rw [← hl, ← e1]; exact (List.getElem?_eq_some_iff.1 hj).1
    exact one_of_oneCell (hlie j x _ hj (List.getElem?_eq_getElem hjl)) (hone _ (List.getElem_mem hjl))
  | tup cs us hl hs ih => intro _ p hp; simp [St.pure] at hp
  | fn f cs us hl hs ih =>
    intro _ p hp
    cases cs with
    | nil =>
      simp only [St.pure, Option.some.injEq] at hp; subst hp
      have : us = [] := List.eq_nil_of_length_eq_zero (by simpa using hl.symm)
      subst this
      exact .fn f
    | cons _ _ => simp [St.pure] at hp
  | dead v => intro _ p hp; simp [St.pure] at hp

theorem owns_mem {cs : List SV} {c : SV} {k : Key} (hc : c ∈ cs) (hk : k ∈ ownsOf [c]) : k ∈ ownsOf cs := by
  induction cs with
  | nil => simp at hc
  | cons x cs ih =>
    rcases List.mem_cons.1 hc with rfl | hc
    · cases c <;> simp [ownsOf] at hk ⊢ <;> first | exact .inl hk | exact hk
    · have := ih hc
      cases x <;> simp [ownsOf, this]

/-! ### results -/

theorem rowsOf_spec : ∀ {ks : List Key} {rows : List (Nat × List PV)}, rowsOf σ ks = some rows → rows.length = ks.length ∧ ∀ (i : Nat) (k : Key), ks[i]? = some k → ∃ sz xs, σ.look k = some (.row sz xs) ∧ rows[i]? = some (sz, xs)
  | [], rows, h => by simp [rowsOf] at h; subst h; simp
  | k :: ks, rows, h => by
    simp only [rowsOf] at h
    split at h
    · rename_i sz xs r hk hr
      simp only [Option.some.injEq] at h; subst h
      obtain ⟨e1, e2⟩ := rowsOf_spec hr
      refine ⟨by simp [e1], fun i k' hk' => ?_⟩
      cases i with
      | zero => simp at hk'; subst hk'; exact ⟨sz, xs, hk, rfl⟩
      | succ i => simpa using e2 i k' (by simpa using hk')
    · cases h

theorem heldExt_spec {ks : List Key} : ∀ {n i : Nat} {ext : List (List PV)}, heldExt σ ks n i = some ext → ext.length = n ∧ ∀ (j : Nat) (xs : List PV), ext[j]? = some xs → ∃ cs, σ.look (.ext (i + j)) = some (.box cs) ∧ (∀ k ∈ ownsOf cs, k ∉ ks) ∧ pureAll σ cs = some xs
  | 0, i, ext, h => by simp [heldExt] at h; subst h; simp
  | n + 1, i, ext, h => by
    simp only [heldExt] at h
    split at h
    · rename_i cs hk
      split at h
      · rename_i hall
        split at h
        · rename_i xs r hx hr
          simp only [Option.some.injEq] at h; subst h
          obtain ⟨e1, e2⟩ := heldExt_spec hr
          refine ⟨by simp [e1], fun j ys hj => ?_⟩
          cases j with
          | zero =>
            simp at hj; subst hj
            refine ⟨cs, hk, fun k hk' hm => ?_, hx⟩
            have := List.all_eq_true.1 hall k hk'
            simp [hm] at this
          | succ j =>
            obtain ⟨cs', h1, h2⟩ := e2 j ys (by simpa using hj)
            exact ⟨cs', by rw [show i + (j + 1) = i + 1 + j by omega]; exact h1, h2⟩
        · cases h
      · cases h
    · cases h

/-- Names of a result. -/
def outβ (β : Key → Blk) (fin : List Key) (i : Nat) : Blk := β (fin.getD i (.res 0))

theorem outβ_get {fin : List Key} {i : Nat} {k : Key} (h : fin[i]? = some k) : outβ β fin i = β k := by simp [outβ, List.getD, h]

mutual
theorem expo_keys : ∀ {v v' : SV} {ks ks' : List Key}, expo ks v = some (v', ks') → (∃ more, ks' = ks ++ more) ∧ (ks.Nodup → ks'.Nodup)
  | .pv x, v', ks, ks', h => by simp [expo] at h; obtain ⟨rfl, rfl⟩ := h; exact ⟨⟨[], by simp⟩, id⟩
  | .nils, v', ks, ks', h => by simp [expo] at h; obtain ⟨rfl, rfl⟩ := h; exact ⟨⟨[], by simp⟩, id⟩
  | .own k, v', ks, ks', h => by
    simp only [expo] at h
    split at h
    · cases h
    · rename_i hn
      simp only [Option.some.injEq, Prod.mk.injEq] at h
      obtain ⟨rfl, rfl⟩ := h
      refine ⟨⟨[k], rfl⟩, fun hnd => ?_⟩
      rw [List.nodup_append]
      exact ⟨hnd, by simp, by intro q hq r hr e; simp at hr; subst hr; subst e; exact hn hq⟩
  | .agg cs, v', ks, ks', h => by
    simp only [expo] at h
    split at h
    · rename_i cs' ks2 hc
      simp only [Option.some.injEq, Prod.mk.injEq] at h
      obtain ⟨rfl, rfl⟩ := h
      exact expoL_keys hc
    · cases h
  | .tup cs, v', ks, ks', h => by
    simp only [expo] at h
    split at h
    · rename_i cs' ks2 hc
      simp only [Option.some.injEq, Prod.mk.injEq] at h
      obtain ⟨rfl, rfl⟩ := h
      exact expoL_keys hc
    · cases h
  | .fn f [], v', ks, ks', h => by simp [expo] at h; obtain ⟨rfl, rfl⟩ := h; exact ⟨⟨[], by simp⟩, id⟩
  | .fn f (c :: cs), v', ks, ks', h => by simp [expo] at h
  | .ptr _ _, v', ks, ks', h => by simp [expo] at h
  | .iown _ _ _, v', ks, ks', h => by simp [expo] at h
  | .ipv _ _, v', ks, ks', h => by simp [expo] at h
  | .dead, v', ks, ks', h => by simp [expo] at h
theorem expoL_keys : ∀ {cs cs' : List SV} {ks ks' : List Key}, expo.expoL ks cs = some (cs', ks') → (∃ more, ks' = ks ++ more) ∧ (ks.Nodup → ks'.Nodup)
  | [], cs', ks, ks', h => by simp [expo.expoL] at h; obtain ⟨rfl, rfl⟩ := h; exact ⟨⟨[], by simp⟩, id⟩
  | c :: cs, cs', ks, ks', h => by
    simp only [expo.expoL] at h
    split at h
    · rename_i c' k1 h1
      split at h
      · rename_i cs2 k2 h2
        simp only [Option.some.injEq, Prod.mk.injEq] at h
        obtain ⟨rfl, rfl⟩ := h
        obtain ⟨⟨m1, e1⟩, n1⟩ := expo_keys h1
        obtain ⟨⟨m2, e2⟩, n2⟩ := expoL_keys h2
        exact ⟨⟨m1 ++ m2, by rw [e2, e1, List.append_assoc]⟩, fun hnd => n2 (n1 hnd)⟩
      · cases h
    · cases h
end

theorem expoL_len : ∀ {cs cs' : List SV} {ks ks' : List Key}, expo.expoL ks cs = some (cs', ks') → cs'.length = cs.length
  | [], cs', ks, ks', h => by simp [expo.expoL] at h; obtain ⟨rfl, rfl⟩ := h; rfl
  | c :: cs, cs', ks, ks', h => by
    simp only [expo.expoL] at h
    split at h
    · split at h
      · rename_i cs2 k2 h2
        simp only [Option.some.injEq, Prod.mk.injEq] at h
        obtain ⟨rfl, rfl⟩ := h
        simp [expoL_len h2]
      · cases h
    · cases h

mutual
theorem expo_lies {ok ok' : Nat → Prop} {fin : List Key} {rows : List (Nat × List PV)} (hok : ∀ b, ok b → ok' b) (hrows : ∀ (i : Nat) (k : Key), fin[i]? = some k → ∃ sz xs, σ.look k = some (.row sz xs) ∧ rows[i]? = some (sz, xs)) :
    ∀ {v v' : SV} {ks ks' : List Key} {u : Value}, expo ks v = some (v', ks') → (∃ more, fin = ks' ++ more) → SLies w ok β σ.look v u → SLies w ok' (resβ (outβ β fin)) (resLk rows) v' u
  | .pv x, v', ks, ks', u, h, _, hv => by
    simp [expo] at h; obtain ⟨rfl, rfl⟩ := h
    exact .pv _ _ ((slies_pv hv).mono (fun b _ off u hu => hu) hok)
  | .nils, v', ks, ks', u, h, _, hv => by
    simp [expo] at h; obtain ⟨rfl, rfl⟩ := h
    cases hv; exact .nils _
  | .own k, v', ks, ks', u, h, hf, hv => by
    simp only [expo] at h
    split at h
    · cases h
    · simp only [Option.some.injEq, Prod.mk.injEq] at h
      obtain ⟨rfl, rfl⟩ := h
      obtain ⟨more, rfl⟩ := hf
      have hk : (ks ++ [k] ++ more)[ks.length]? = some k := by simp
      obtain ⟨sz, xs, h1, h2⟩ := hrows _ _ hk
      have := own_is hv h1
      subst this
      have := SLies.own (w := w) (ok := ok') (β := resβ (outβ β (ks ++ [k] ++ more))) (lk := resLk rows) (.res ks.length) sz xs (by simp [resLk, h2])
      simp only [resβ] at this
      rw [outβ_get hk] at this
      exact this
  | .agg cs, v', ks, ks', u, h, hf, hv => by
    simp only [expo] at h
    split at h
    · rename_i cs' ks2 hc
      simp only [Option.some.injEq, Prod.mk.injEq] at h
      obtain ⟨rfl, rfl⟩ := h
      cases hv with
      | agg _ us hl hs h1 => exact .agg cs' us (by rw [expoL_len hc, hl]) (expoL_lies hok hrows hc hf hl hs) h1
    · cases h
  | .tup cs, v', ks, ks', u, h, hf, hv => by
    simp only [expo] at h
    split at h
    · rename_i cs' ks2 hc
      simp only [Option.some.injEq, Prod.mk.injEq] at h
      obtain ⟨rfl, rfl⟩ := h
      cases hv with
      | tup _ us hl hs => exact .tup cs' us (by rw [expoL_len hc, hl]) (expoL_lies hok hrows hc hf hl hs)
    · cases h
  | .fn f [], v', ks, ks', u, h, _, hv => by
    simp [expo] at h; obtain ⟨rfl, rfl⟩ := h
    cases hv with
    | fn _ _ us hl hs =>
      have : us = [] := List.eq_nil_of_length_eq_zero (by simpa using hl.symm)
      subst this
      exact .pv _ _ (.fn f)
  | .fn f (c :: cs), v', ks, ks', u, h, _, _ => by simp [expo] at h
  | .ptr _ _, v', ks, ks', u, h, _, _ => by simp [expo] at h
  | .iown _ _ _, v', ks, ks', u, h, _, _ => by simp [expo] at h
  | .ipv _ _, v', ks, ks', u, h, _, _ => by simp [expo] at h
  | .dead, v', ks, ks', u, h, _, _ => by simp [expo] at h
theorem expoL_lies {ok ok' : Nat → Prop} {fin : List Key} {rows : List (Nat × List PV)} (hok : ∀ b, ok b → ok' b) (hrows : ∀ (i : Nat) (k : Key), fin[i]? = some k → ∃ sz xs, σ.look k = some (.row sz xs) ∧ rows[i]? = some (sz, xs)) :
    ∀ {cs cs' : List SV} {ks ks' : List Key} {us : List Value}, expo.expoL ks cs = some (cs', ks') → (∃ more, fin = ks' ++ more) → cs.length = us.length → (∀ (j : Nat) (x : SV) (u : Value), cs[j]? = some x → us[j]? = some u → SLies w ok β σ.look x u) →
      ∀ (j : Nat) (x : SV) (u : Value), cs'[j]? = some x → us[j]? = some u → SLies w ok' (resβ (outβ β fin)) (resLk rows) x u
  | [], cs', ks, ks', us, h, _, _, _ => by simp [expo.expoL] at h; obtain ⟨rfl, rfl⟩ := h; simp
  | c :: cs, cs', ks, ks', us, h, hf, hl, hs => by
    simp only [expo.expoL] at h
    split at h
    · rename_i c' k1 h1
      split at h
      · rename_i cs2 k2 h2
        simp only [Option.some.injEq, Prod.mk.injEq] at h
        obtain ⟨rfl, rfl⟩ := h
        obtain ⟨⟨m2, e2⟩, _⟩ := expoL_keys h2
        intro j x u hx hu
        cases us with
        | nil => simp at hl
        | cons u0 us =>
          cases j with
          | zero =>
            simp at hx hu; subst hx; subst hu
            obtain ⟨m3, rfl⟩ := hf
            exact expo_lies hok hrows h1 ⟨m2 ++ m3, by rw [e2, List.append_assoc]⟩ (hs 0 c u0 rfl rfl)
          | succ j =>
            exact expoL_lies hok hrows h2 hf (by simpa using hl) (fun j x u hx hu => hs (j + 1) x u (by simpa using hx) (by simpa using hu)) j x u (by simpa using hx) (by simpa using hu)
      · cases h
    · cases h
end

def agreeR (P : Program) : ResultVar → RV → Bool
  | .tmp t, .tmp t' => t == t'
  | .cell x t, .cell x' agg n => x == x' && aggT P t == some (agg, n)
  | _, _ => false

/-- How a result is read. -/
def Reads (a : Act) (f : ResultVar → Sem Value) : Prop := (∀ u, f (.tmp u) = pure (a.tmps.getD u undef)) ∧ ∀ x t, f (.cell x t) = (do loadVar t (← asAddr (a.tmps.getD x undef)))

theorem resVal_run (h : RR C β σ a w) {r : ResultVar} {r' : RV} {v : SV} (hag : agreeR P r r' = true) (hv : resVal cl σ r' = some v) :
    ∃ u, (∀ f, Reads a f → (f r).run P w = .ok u w) ∧ SLies w (okB C β σ.look w) β σ.look v u := by
  unfold agreeR at hag
  split at hag
  · rename_i t t'
    simp only [beq_iff_eq] at hag; subst hag
    simp only [resVal, Option.some.injEq] at hv; subst hv
    exact ⟨_, fun f hf => by rw [hf.1]; simp, h.slots t⟩
  · rename_i x t x' agg n
    simp only [Bool.and_eq_true, beq_iff_eq] at hag
    obtain ⟨rfl, ht⟩ := hag
    simp only [resVal, Option.map_eq_some_iff] at hv
    obtain ⟨e, he, rfl⟩ := hv
    have : loadS σ agg n (σ.get x) = some e.v := by
      revert he
      simp only [aeff, loadS, St.ev]
      generalize σ.get x = xv
      intro he
      cases xv <;> simp only at he <;> try (cases he; done)
      · split at he
        · rename_i cs1 hk1
          split at he
          · rename_i hle; simp only [Option.map_eq_some_iff] at he; obtain ⟨v, hv, rfl⟩ := he; simp only [hk1, hle, if_true]; exact hv
          · cases he
        · cases he
      · split at he
        · rename_i sz1 xs1 hk1
          split at he
          · rename_i e2 he2
            split at he
            · rename_i hle; simp only [Option.map_eq_some_iff] at he; obtain ⟨v, hv, rfl⟩ := he; simp only [hk1, he2, hle, if_true]; exact hv
            · cases he
          · cases he
        · cases he
      · split at he
        · rename_i hle; simp only [Option.map_eq_some_iff] at he; obtain ⟨v, hv, rfl⟩ := he; simp only [hle, if_true]; exact hv
        · cases he
    obtain ⟨b, o, us, hxe, hn, hcs, u, hu, hs⟩ := behind h (h.slots x) this
    subst hn
    refine ⟨u, fun f hf => ?_, hs⟩
    rw [hf.2, hxe]
    simp [asAddr, run_loadVar' ht hcs hu]
  · cases hag

theorem resVals_run (h : RR C β σ a w) :
    ∀ {rs : List ResultVar} {rs' : List RV} {vs : List SV}, all2 (agreeR P) rs rs' = true → resVals cl σ rs' = some vs → ∃ us, (∀ f, Reads a f → (rs.mapM f).run P w = .ok us w) ∧ vs.length = us.length ∧ ∀ (j : Nat) (x : SV) (u : Value), vs[j]? = some x → us[j]? = some u → SLies w (okB C β σ.look w) β σ.look x u
  | [], [], vs, _, hv => by simp [resVals] at hv; subst hv; exact ⟨[], by simp, rfl, by simp⟩
  | [], _ :: _, _, hag, _ => by simp [all2] at hag
  | _ :: _, [], _, hag, _ => by simp [all2] at hag
  | r :: rs, r' :: rs', vs, hag, hv => by
    simp only [all2, Bool.and_eq_true] at hag
    simp only [resVals] at hv
    split at hv
    · rename_i v vs' h1 h2
      simp only [Option.some.injEq] at hv; subst hv
      obtain ⟨u, e1, e2⟩ := resVal_run h hag.1 h1
      obtain ⟨us, q1, q2, q3⟩ := resVals_run h hag.2 h2
      refine ⟨u :: us, fun f hf => by simp [List.mapM_cons, e1 f hf, q1 f hf], by simp [q2], fun j x u' hx hu => ?_⟩
      cases j with
      | zero => simp at hx hu; subst hx; subst hu; exact e2
      | succ j => exact q3 j x u' (by simpa using hx) (by simpa using hu)
    · cases hv

/-- Leaving a function. -/
theorem leave_sound (h : RR C β σ a w) {fn : Func} {fd : Fd} (hag : all2 (agreeR P) fn.results.toList fd.res = true) {r : Res} (hl : leave cl fd C.ne σ = some r) :
    ∃ v δ, (results fn a.tmps).run P w = .ok v w ∧ After C.w0 w C.ok C.ne C.γ r v δ := by
  unfold leave at hl
  split at hl
  · cases hl
  · rename_i vs hvs
    split at hl
    · cases hl
    · rename_i v' ks hex
      split at hl
      · rename_i rows ext hrows hext
        simp only [Option.some.injEq] at hl; subst hl
        obtain ⟨us, hr, hlen, hs⟩ := resVals_run h hag hvs
        have hv : ∃ v, (results fn a.tmps).run P w = .ok v w ∧ SLies w (okB C β σ.look w) β σ.look (resOf vs) v := by
          unfold results
          rw [show fn.results = fn.results.toList.toArray by simp, List.mapM_toArray]
          simp only [Sem.run_bind, Sem.run_map]
          rw [hr _ ⟨fun u => rfl, fun x t => rfl⟩]
          match vs, us, hlen, hs with
          | [x], [u], _, hs => exact ⟨u, by simp, hs 0 x u rfl rfl⟩
          | [], [], _, hs => exact ⟨.tuple #[], by simp, SLies.tup (w := w) (ok := okB C β σ.look w) (β := β) (lk := σ.look) [] [] rfl (by simp)⟩
          | x :: y :: xs, u :: v :: us, hlen, hs => exact ⟨.tuple (u :: v :: us).toArray, by simp, .tup _ _ hlen hs⟩
        obtain ⟨v, hrv, hsv⟩ := hv
        obtain ⟨r1, r2⟩ := rowsOf_spec hrows
        obtain ⟨x1, x2⟩ := heldExt_spec hext
        obtain ⟨_, hnd⟩ := expo_keys hex
        have hnd := hnd (by simp)
        have hrow : ∀ i, i < rows.length → ∃ k sz xs, ks[i]? = some k ∧ σ.look k = some (.row sz xs) ∧ rows[i]? = some (sz, xs) ∧ outβ β ks i = β k := by
          intro i hi
          have hg : ks[i]? = some (ks[i]'(by omega)) := List.getElem?_eq_getElem (by omega)
          obtain ⟨sz, xs, q1, q2⟩ := r2 i _ hg
          exact ⟨_, sz, xs, hg, q1, q2, outβ_get hg⟩
        have hok : ∀ b, okB C β σ.look w b → okAft C.ok C.w0 w (outβ β ks) rows.length b := by
          intro b hb
          by_cases hlt : b < C.w0.heap.size
          · exact .inl (hb.2.2 hlt)
          · refine .inr ⟨by omega, hb.1, fun i hi => ?_⟩
            obtain ⟨k, sz, xs, _, q1, _, q2⟩ := hrow i hi
            rw [q2]; exact hb.2.1 k _ q1
        refine ⟨v, outβ β ks, hrv, ⟨h.size, h.frame, fun i j hi hj e => ?_, fun i hi => ?_, ⟨x1, fun i xs hx => ?_⟩, fun i sz xs hx => ?_, ?_, h.quiet⟩⟩
        · obtain ⟨k, sz, xs, g1, q1, _, q2⟩ := hrow i hi
          obtain ⟨k', sz', xs', g1', q1', _, q2'⟩ := hrow j hj
          rw [q2, q2'] at e
          have := h.inj k k' _ _ q1 q1' e
          subst this
          have hi' : i < rows.length := hi
          exact (List.getElem?_inj (i := i) (j := j) (by omega) hnd).1 (g1.trans g1'.symm)
        · obtain ⟨k, sz, xs, g1, q1, _, q2⟩ := hrow i hi
          rw [q2]; exact (h.row_lo q1).2
        · obtain ⟨cs, g1, g2, g3⟩ := x2 i xs hx
          rw [Nat.zero_add] at g1
          obtain ⟨hi, hb⟩ := h.ext2 i _ g1
          obtain ⟨arr, T, p1, p2, p3, p4⟩ := h.objs _ _ g1
          obtain ⟨s1, s2⟩ := pureAll_spec g3
          rw [hb] at p1
          refine ⟨arr, T, p1, by rw [p2, s1], p3, fun j x u hx' hu => ?_⟩
          have hj : j < cs.length := by rw [s1]; exact (List.getElem?_eq_some_iff.1 hx').1
          have hcj : cs[j]? = some cs[j] := List.getElem?_eq_getElem hj
          have hp := s2 j _ x hcj hx'
          refine pure_lies2 h hok (p4 j _ u hcj hu) (fun k hk => ?_) x hp
          have hkm := owns_mem (List.mem_of_getElem? hcj) (pure_names hp hk)
          obtain ⟨o, ho⟩ := (p4 j _ u hcj hu).there hk
          have hke := g2 k hkm
          have hrowk : ∃ sz ys, σ.look k = some (.row sz ys) := by
            have := pure_names hp hk
            -- a value's own rows are rows
            exact own_row hp hk
          obtain ⟨sz, ys, hky⟩ := hrowk
          refine .inr ⟨(h.row_lo hky).2, h.blk_lt hky, fun i' hi' e => ?_⟩
          obtain ⟨k', sz', xs', q0, q1, _, q2⟩ := hrow i' hi'
          rw [q2] at e
          have := h.inj k' k _ _ q1 hky e
          subst this
          exact hke (List.mem_of_getElem? q0)
        · have hi := (List.getElem?_eq_some_iff.1 hx).1
          obtain ⟨k, sz', xs', g1, q1, q3, q2⟩ := hrow i hi
          have hx : rows[i]? = some (sz, xs) := hx
          rw [hx] at q3; cases q3
          rw [q2]
          obtain ⟨arr, T, p1, p2, p3, p4, p5⟩ := h.objs k _ q1
          refine ⟨arr, T, p1, p2, p3, p4, fun i j x y hx hy => ?_⟩
          obtain ⟨u, hu, hL⟩ := p5 i j x y hx hy
          exact ⟨u, hu, hL.mono (fun b _ off u hu => hu) hok⟩
        · exact expo_lies hok r2 hex ⟨[], by simp⟩ hsv
      · cases hl
where
  own_row {v : SV} {p : PV} {k : Key} (hp : σ.pure v = some p) (hn : v.names k = true) : ∃ sz ys, σ.look k = some (.row sz ys) := by
    cases v with
    | own k' =>
      simp [SV.names] at hn; subst hn
      simp only [St.pure] at hp
      split at hp
      · rename_i sz ys hk; exact ⟨sz, ys, hk⟩
      · cases hp
    | agg cs =>
      simp only [St.pure, Option.map_eq_some_iff] at hp
      obtain ⟨xs, hx, _⟩ := hp
      exact own_rowL hx (by simpa [SV.names] using hn)
    | pv x => simp [SV.names] at hn
    | nils => simp [SV.names] at hn
    | fn f cs => cases cs with
      | nil => simp [SV.names, SV.names.namesL] at hn
      | cons _ _ => simp [St.pure] at hp
    | ptr _ _ => simp [St.pure] at hp
    | iown _ _ _ => simp [St.pure] at hp
    | ipv _ _ => simp [St.pure] at hp
    | tup _ => simp [St.pure] at hp
    | dead => simp [St.pure] at hp
  own_rowL {cs : List SV} {xs : List PV} {k : Key} (hp : St.pure.pureL σ cs = some xs) (hn : SV.names.namesL k cs = true) : ∃ sz ys, σ.look k = some (.row sz ys) := by
    induction cs generalizing xs with
    | nil => simp [SV.names.namesL] at hn
    | cons c cs ih =>
      obtain ⟨hne, x, ys, hx, hy, rfl⟩ := pureL_cons.1 hp
      simp only [SV.names.namesL, Bool.or_eq_true] at hn
      rcases hn with hn | hn
      · cases c with
        | own k' =>
          simp [SV.names] at hn; subst hn
          simp only [St.pure] at hx
          split at hx
          · rename_i sz ys hk; exact ⟨sz, ys, hk⟩
          · cases hx
        | agg l => exact absurd rfl (hne l)
        | pv x => simp [SV.names] at hn
        | nils => simp [SV.names] at hn
        | fn f cs => cases cs with
          | nil => simp [SV.names, SV.names.namesL] at hn
          | cons _ _ => simp [St.pure] at hx
        | ptr _ _ => simp [St.pure] at hx
        | iown _ _ _ => simp [St.pure] at hx
        | ipv _ _ => simp [St.pure] at hx
        | tup _ => simp [St.pure] at hx
        | dead => simp [St.pure] at hx
      · exact ih hy hn

end
end Go.Av
