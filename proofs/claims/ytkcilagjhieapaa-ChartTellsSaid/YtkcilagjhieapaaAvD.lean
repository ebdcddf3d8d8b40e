/- Calls that change their caller's variables. -/
import Derived.Test.YtkcilagjhieapaaAvC
set_option linter.unusedVariables false
set_option linter.unusedSimpArgs false
namespace Go.Av
section
variable {P : Program} {C : Ctx} {β : Key → Blk} {σ : St} {a : Act} {w : World} {o : Oper}

theorem back_fwd {ks : List Key} {ext : List (List PV)} {σ2 : St} (hb : backAll σ ks ext = some σ2) (hnd : ks.Nodup) {k : Key} {o1 : HObj} (hk : σ.look k = some o1) : ∃ o2, σ2.look k = some o2 ∧ o1.sim o2 := by
  obtain ⟨e1, _, e3, e4⟩ := backAll_spec hb
  by_cases hm : k ∈ ks
  · obtain ⟨i, hi, hik⟩ := List.getElem_of_mem hm
    have hg : ks[i]? = some k := by rw [List.getElem?_eq_getElem hi, hik]
    obtain ⟨⟨cs, h1, h2⟩, h3⟩ := e4 i k (ext[i]'(by omega)) hnd hg (List.getElem?_eq_getElem (by omega))
    rw [hk] at h1; cases h1
    exact ⟨_, h3, trivial⟩
  · exact ⟨o1, by rw [e3 k hm, hk], o1.sim_refl⟩

theorem back_bwd {ks : List Key} {ext : List (List PV)} {σ2 : St} (hb : backAll σ ks ext = some σ2) (hnd : ks.Nodup) {k : Key} {o2 : HObj} (hk : σ2.look k = some o2) :
    (k ∉ ks ∧ σ.look k = some o2) ∨ ∃ (i : Nat) (xs : List PV) (cs : List SV), ks[i]? = some k ∧ ext[i]? = some xs ∧ o2 = .box (xs.map .pv) ∧ σ.look k = some (.box cs) := by
  obtain ⟨e1, _, e3, e4⟩ := backAll_spec hb
  by_cases hm : k ∈ ks
  · obtain ⟨i, hi, hik⟩ := List.getElem_of_mem hm
    have hg : ks[i]? = some k := by rw [List.getElem?_eq_getElem hi, hik]
    obtain ⟨⟨cs, h1, h2⟩, h3⟩ := e4 i k (ext[i]'(by omega)) hnd hg (List.getElem?_eq_getElem (by omega))
    rw [hk] at h3; cases h3
    exact .inr ⟨i, _, cs, hg, List.getElem?_eq_getElem (by omega), rfl, h1⟩
  · exact .inl ⟨hm, by rw [← e3 k hm, hk]⟩

theorem ins_none (d : Nat) (rows : List (Nat × List PV)) {σ σ2 : St} (hl : ∀ k, σ.look k = none → σ2.look k = none) {i : Nat} (hf : σ.look (.loc d i) = none) : σ2.look (.loc d i) = none := hl _ hf

/-- A call has changed the variables that it was lent, and made rows. -/
theorem RR.back (h : RR C β σ a w) {ks : List Key} {ext : List (List PV)} {σ2 : St} (hb : backAll σ ks ext = some σ2) (hnd : ks.Nodup) {w' : World} (hsz : w.heap.size ≤ w'.heap.size) (hq : Quiet w w')
    (hfr : ∀ b, b < w.heap.size → (∀ i, i < ks.length → blks β ks i ≠ b) → w'.heap[b]? = w.heap[b]?) (d : Nat) (rows : List (Nat × List PV)) (δ : Nat → Blk)
    (hinj : ∀ i j, i < rows.length → j < rows.length → (δ i).b = (δ j).b → i = j) (hnew : ∀ i, i < rows.length → w.heap.size ≤ (δ i).b) (hfresh : ∀ i, i < rows.length → σ.look (.loc d i) = none)
    (hext : ∀ i xs, ext[i]? = some xs → BoxIs w' (okAft (okB C β σ.look w) w w' δ rows.length) (blks β ks i) xs)
    (hrows : ∀ i sz xs, rows[i]? = some (sz, xs) → ∃ arr T, w'.heap[(δ i).b]? = some (.cells arr T (0, 0)) ∧ xs.length ≤ (δ i).c ∧ arr.size = (δ i).c * sz ∧ (∀ x ∈ xs, x.cells.length = sz ∧ x.fine) ∧
      ∀ (i j : Nat) (x y : PV), xs[i]? = some x → x.cells[j]? = some y → ∃ u, arr[i * sz + j]? = some u ∧ Lies w' (okAft (okB C β σ.look w) w w' δ rows.length) y u) :
    ∃ β', (∀ i, i < rows.length → β' (.loc d i) = δ i) ∧ RR C β' (σ2.insAll (rowsAt d 0 rows)) a w' ∧
      (∀ b, okAft (okB C β σ.look w) w w' δ rows.length b → okB C β' (σ2.insAll (rowsAt d 0 rows)).look w' b) ∧
      (∀ i sz xs, rows[i]? = some (sz, xs) → (σ2.insAll (rowsAt d 0 rows)).look (.loc d i) = some (.row sz xs)) := by
  have hfresh2 : ∀ i, i < rows.length → σ2.look (.loc d i) = none := by
    intro i hi
    cases hl : σ2.look (.loc d i) with
    | none => rfl
    | some o2 =>
      rcases back_bwd hb hnd hl with ⟨_, h1⟩ | ⟨_, _, cs, _, _, _, h1⟩ <;> rw [hfresh i hi] at h1 <;> cases h1
  let β' : Key → Blk := fun k => match k with
    | .loc d' i => if d' = d ∧ i < rows.length then δ i else β k
    | _ => β k
  have b2 : ∀ i, i < rows.length → β' (.loc d i) = δ i := fun i hi => by simp [β', hi]
  have hback : ∀ k o', (σ2.insAll (rowsAt d 0 rows)).look k = some o' → (∃ i sz xs, k = .loc d i ∧ rows[i]? = some (sz, xs) ∧ o' = .row sz xs) ∨ ((∀ i, i < rows.length → k ≠ .loc d i) ∧ σ2.look k = some o' ∧ β' k = β k) := by
    intro k o' hk
    rw [look_insRows] at hk
    cases k with
    | loc d' i =>
      simp only at hk
      by_cases e : d' = d
      · subst e
        rw [if_pos rfl] at hk
        cases hr : rows[i]? with
        | some p =>
          obtain ⟨sz, xs⟩ := p
          rw [hr] at hk; simp at hk
          exact .inl ⟨i, sz, xs, rfl, hr, hk.symm⟩
        | none =>
          rw [hr] at hk; simp at hk
          have hge : ¬ i < rows.length := by have := List.getElem?_eq_none_iff.1 hr; omega
          exact .inr ⟨fun i' hi' e => by cases e; exact hge hi', hk, by simp [β', hge]⟩
      · rw [if_neg e] at hk; simp at hk
        exact .inr ⟨fun i' hi' e2 => by cases e2; exact e rfl, hk, by simp [β', e]⟩
    | ext i => simp at hk; exact .inr ⟨fun i' hi' e => (by cases e), hk, rfl⟩
    | res i => simp at hk; exact .inr ⟨fun i' hi' e => (by cases e), hk, rfl⟩
  have hkeep : ∀ k o', σ2.look k = some o' → (σ2.insAll (rowsAt d 0 rows)).look k = some o' ∧ β' k = β k := by
    intro k o' hk
    rw [look_insRows]
    cases k with
    | loc d' i =>
      by_cases e : d' = d
      · subst e
        have hge : ¬ i < rows.length := fun hi => by rw [hfresh2 i hi] at hk; cases hk
        simp only [if_true]
        rw [List.getElem?_eq_none_iff.2 (by omega)]
        exact ⟨by simpa using hk, by simp [β', hge]⟩
      · simp only [e, if_false]
        exact ⟨by simpa using hk, by simp [β', e]⟩
    | ext i => exact ⟨by simpa using hk, rfl⟩
    | res i => exact ⟨by simpa using hk, rfl⟩
  have hlk : ∀ i sz xs, rows[i]? = some (sz, xs) → (σ2.insAll (rowsAt d 0 rows)).look (.loc d i) = some (.row sz xs) := by
    intro i sz xs hr
    rw [look_insRows]
    simp [hr]
  have hsome : ∀ k o', σ2.look k = some o' → ∃ o1, σ.look k = some o1 := by
    intro k o' hk
    rcases back_bwd hb hnd hk with ⟨_, h1⟩ | ⟨_, _, cs, _, _, _, h1⟩
    · exact ⟨_, h1⟩
    · exact ⟨_, h1⟩
  have hok : ∀ b, okAft (okB C β σ.look w) w w' δ rows.length b → okB C β' (σ2.insAll (rowsAt d 0 rows)).look w' b := by
    intro b hb'
    have hcs := h.size
    rcases hb' with hb' | ⟨h1, h2, h3⟩
    · refine ⟨by have := hb'.1; omega, fun k o' hk => ?_, hb'.2.2⟩
      rcases hback k o' hk with ⟨i, sz, xs, rfl, hr, _⟩ | ⟨_, hk', e⟩
      · have hi := (List.getElem?_eq_some_iff.1 hr).1
        rw [b2 i hi]; have := hnew i hi; have := hb'.1; omega
      · rw [e]; obtain ⟨o1, h1⟩ := hsome k o' hk'; exact hb'.2.1 k o1 h1
    · refine ⟨h2, fun k o' hk => ?_, fun hlt => by omega⟩
      rcases hback k o' hk with ⟨i, sz, xs, rfl, hr, _⟩ | ⟨_, hk', e⟩
      · have hi := (List.getElem?_eq_some_iff.1 hr).1
        rw [b2 i hi]; exact h3 i hi
      · rw [e]; obtain ⟨o1, h1⟩ := hsome k o' hk'; have := h.blk_lt h1; omega
  have hlive : ∀ i, i < ks.length → ∃ k o1, ks[i]? = some k ∧ σ.look k = some o1 ∧ blks β ks i = (β k).b := by
    intro i hi
    obtain ⟨e1, _, _, e4⟩ := backAll_spec hb
    have hg : ks[i]? = some ks[i] := List.getElem?_eq_getElem hi
    obtain ⟨⟨cs, h1, _⟩, _⟩ := e4 i _ (ext[i]'(by omega)) hnd hg (List.getElem?_eq_getElem (by omega))
    exact ⟨_, _, hg, h1, blks_get hg⟩
  have hkp : Keeps (okB C β σ.look w) w w' := by
    intro b hb' off u hu
    simp only [World.cell?, hfr b hb'.1 (fun i hi e => by obtain ⟨k, o1, _, h1, h2⟩ := hlive i hi; exact hb'.2.1 k o1 h1 (h2 ▸ e))]
    exact hu
  have hfwd : ∀ k o', σ.look k = some o' → ∃ o'', (σ2.insAll (rowsAt d 0 rows)).look k = some o'' ∧ o'.sim o'' ∧ β' k = β k := by
    intro k o' hk
    obtain ⟨o2, h1, h2⟩ := back_fwd hb hnd hk
    exact ⟨o2, (hkeep k o2 h1).1, h2, (hkeep k o2 h1).2⟩
  have hget : ∀ t, (σ2.insAll (rowsAt d 0 rows)).get t = σ.get t := (backAll_spec hb).2.1
  have mono : ∀ {x : SV} {v : Value}, SLies w (okB C β σ.look w) β σ.look x v → SLies w' (okB C β' (σ2.insAll (rowsAt d 0 rows)).look w') β' (σ2.insAll (rowsAt d 0 rows)).look x v := fun hx =>
    hx.mono hkp (fun b hb => hok b (.inl hb)) hfwd
  refine ⟨β', b2, ⟨h.tsz, h.dfs, ?_, ?_, ?_, ?_, ?_, fun t => by rw [hget]; exact mono (h.slots t), Nat.le_trans h.size hsz, ?_, h.quiet.trans hq⟩, hok, hlk⟩
  · intro k1 k2 o1 o2 h1 h2 e
    rcases hback k1 o1 h1 with ⟨i, sz, xs, rfl, hr, _⟩ | ⟨_, h1', e1⟩
    · have hi := (List.getElem?_eq_some_iff.1 hr).1
      rw [b2 i hi] at e
      rcases hback k2 o2 h2 with ⟨j, sz', xs', rfl, hr', _⟩ | ⟨_, h2', e2⟩
      · have hj := (List.getElem?_eq_some_iff.1 hr').1
        rw [b2 j hj] at e
        rw [hinj i j hi hj e]
      · obtain ⟨o3, h2''⟩ := hsome _ _ h2'
        rw [e2] at e; have := h.blk_lt h2''; have := hnew i hi; omega
    · obtain ⟨o3, h1''⟩ := hsome _ _ h1'
      rw [e1] at e
      rcases hback k2 o2 h2 with ⟨j, sz', xs', rfl, hr', _⟩ | ⟨_, h2', e2⟩
      · have hj := (List.getElem?_eq_some_iff.1 hr').1
        rw [b2 j hj] at e
        have := h.blk_lt h1''; have := hnew j hj; omega
      · obtain ⟨o4, h2''⟩ := hsome _ _ h2'
        rw [e2] at e; exact h.inj k1 k2 _ _ h1'' h2'' e
  · intro k o' hk
    rcases hback k o' hk with ⟨i, sz, xs, rfl, hr, rfl⟩ | ⟨_, hk', e⟩
    · have hi := (List.getElem?_eq_some_iff.1 hr).1
      rw [b2 i hi]
      obtain ⟨arr, T, g1, g2, g3, g4, g5⟩ := hrows i sz xs hr
      refine ⟨arr, T, g1, g2, g3, g4, fun i j x y hx hy => ?_⟩
      obtain ⟨u, hu, hL⟩ := g5 i j x y hx hy
      exact ⟨u, hu, hL.mono (fun b _ off u hu => hu) hok⟩
    · rcases back_bwd hb hnd hk' with ⟨hn, h1⟩ | ⟨i, xs, cs, hi, hx, rfl, h1⟩
      · refine (h.objs k o' h1).mono hkp (fun b hb => hok b (.inl hb)) e (hfr _ (h.blk_lt h1) (fun i hi e2 => ?_)) (fun k2 o2 _ h2 => hfwd k2 o2 h2)
        obtain ⟨k2, o1, g1, g2, g3⟩ := hlive i hi
        rw [g3] at e2
        have := h.inj k2 k o1 o' g2 h1 e2
        subst this
        exact hn (List.mem_of_getElem? g1)
      · have hbx := hext i xs hx
        rw [blks_get hi, ← e] at hbx
        obtain ⟨arr, T, g1, g2, g3, g4⟩ := hbx
        refine ⟨arr, T, g1, by simpa using g2, g3, fun j x u hx' hu => ?_⟩
        simp only [List.getElem?_map, Option.map_eq_some_iff] at hx'
        obtain ⟨x0, hx0, rfl⟩ := hx'
        exact .pv _ _ ((g4 j x0 u hx0 hu).mono (fun b _ off u hu => hu) hok)
  · intro k o' hk hx
    rcases hback k o' hk with ⟨i, sz, xs, rfl, hr, _⟩ | ⟨_, hk', e⟩
    · have hi := (List.getElem?_eq_some_iff.1 hr).1
      rw [b2 i hi]; exact Nat.le_trans h.size (hnew i hi)
    · obtain ⟨o1, h1⟩ := hsome _ _ hk'
      rw [e]; exact h.lo k o1 h1 hx
  · intro i hi
    obtain ⟨cs, hcs⟩ := h.ext1 i hi
    obtain ⟨o2, h1, h2, _⟩ := hfwd _ _ hcs
    cases o2 with
    | box cs' => exact ⟨cs', h1⟩
    | row _ _ => simp [HObj.sim] at h2
  · intro i o' hk
    rcases hback _ o' hk with ⟨j, sz, xs, e, _⟩ | ⟨_, hk', e⟩
    · cases e
    · obtain ⟨o1, h1⟩ := hsome _ _ hk'
      rw [e]; exact h.ext2 i o1 h1
  · intro b hb' hx
    have hs := h.size
    rw [hfr b (by omega) (fun i hi e => ?_)]
    · exact h.frame b hb' hx
    · obtain ⟨k, o1, g1, g2, g3⟩ := hlive i hi
      rw [g3] at e
      by_cases hke : ∃ j, k = .ext j
      · obtain ⟨j, rfl⟩ := hke
        obtain ⟨q1, q2⟩ := h.ext2 j o1 g2
        exact hx j q1 (by rw [← q2, e])
      · have := h.lo k o1 g2 (fun j e => hke ⟨j, e⟩)
        omega

/-- Behind a call that was lent variables. -/
theorem RR.tookB (h : RR C β σ a w) {ks : List Key} {σ2 : St} {w' : World} {d keep : Nat} {r : Res} {e : Eff} {v : Value} {δ : Nat → Blk} {ok : Nat → Prop} (hb : backAll σ ks r.ext = some σ2) (hnd : ks.Nodup)
    (ha : After w w' ok ks.length (blks β ks) r v δ) (hs : ∀ b, ok b → okB C β σ.look w b) (ht : Av.took d keep r = some e) (hfresh : ∀ i, i < keep → σ.look (.loc d i) = none) :
    ∃ β', RR C β' (σ2.insAll e.ins) a w' ∧ SLies w' (okB C β' (σ2.insAll e.ins).look w') β' (σ2.insAll e.ins).look e.v v := by
  have hsub : ∀ m b, okAft ok w w' δ m b → okAft (okB C β σ.look w) w w' δ m b := fun m b hb => hb.imp (hs b) id
  have h0 : ∀ m b, m ≤ r.rows.length → okAft ok w w' δ r.rows.length b → okAft (okB C β σ.look w) w w' δ m b := fun m b hm hb => by
    rcases hb with hb | ⟨h1, h2, h3⟩
    · exact .inl (hs b hb)
    · exact .inr ⟨h1, h2, fun i hi => h3 i (by omega)⟩
  have hbox : ∀ m, m ≤ r.rows.length → ∀ i xs, r.ext[i]? = some xs → BoxIs w' (okAft (okB C β σ.look w) w w' δ m) (blks β ks i) xs := fun m hm i xs hx => by
    obtain ⟨arr, T, g1, g2, g3, g4⟩ := ha.exts.2 i xs hx
    exact ⟨arr, T, g1, g2, g3, fun j x u hx hu => (g4 j x u hx hu).mono (fun b _ off u hu => hu) (fun b hb => h0 m b hm hb)⟩
  simp only [Av.took] at ht
  by_cases hk : (keep == 0) = true
  · rw [hk] at ht
    simp only [cond_true, Option.map_eq_some_iff] at ht
    obtain ⟨y, hy, rfl⟩ := ht
    obtain ⟨β', _, h', hok', _⟩ := h.back hb hnd ha.size ha.quiet ha.frame d [] δ (by simp) (by simp) (by simp) (hbox 0 (Nat.zero_le _)) (by simp)
    refine ⟨β', h', ?_⟩
    refine flat_lies (fun b hb => hok' b (h0 0 b (Nat.zero_le _) hb)) (fun i hi => hok' _ (.inr ⟨ha.new i hi, ?_, by simp⟩)) ha.rows ha.val y hy
    obtain ⟨⟨sz, xs⟩, hp⟩ : ∃ p, r.rows[i]? = some p := ⟨_, List.getElem?_eq_getElem hi⟩
    obtain ⟨arr, T, g1, _⟩ := ha.rows i sz xs hp
    exact (Array.getElem?_eq_some_iff.1 g1).1
  · simp only [Bool.not_eq_true] at hk
    rw [hk] at ht
    simp only [cond_false] at ht
    cases hle : decide (r.rows.length ≤ keep) with
    | false => rw [hle] at ht; cases ht
    | true =>
      rw [hle] at ht
      simp only [cond_true, Option.some.injEq] at ht
      subst ht
      have hle' : r.rows.length ≤ keep := by simpa using hle
      obtain ⟨β', hβ, h', hok', hlk⟩ := h.back hb hnd ha.size ha.quiet ha.frame d r.rows δ ha.inj ha.new (fun i hi => hfresh i (by omega)) (hbox _ (Nat.le_refl _)) (fun i sz xs hp => by
        obtain ⟨arr, T, g1, g2, g3, g4, g5⟩ := ha.rows i sz xs hp
        exact ⟨arr, T, g1, g2, g3, g4, fun i j x y hx hy => by
          obtain ⟨u, hu, hL⟩ := g5 i j x y hx hy
          exact ⟨u, hu, hL.mono (fun b _ off u hu => hu) (hsub _)⟩⟩)
      exact ⟨β', h', ren_lies (fun b hb => hok' b (hsub _ b hb)) hβ hlk ha.val⟩

theorem kill_some {σ : St} {k k' : Key} {o1 : HObj} (h : (σ.kill k).look k' = some o1) : ∃ o2, σ.look k' = some o2 := by
  rw [St.look_kill] at h
  by_cases e : k' = k
  · simp [e] at h
  · simp only [e, if_false, Option.map_eq_some_iff] at h
    obtain ⟨o2, h1, _⟩ := h
    exact ⟨o2, h1⟩

theorem killAll_some (ks : List Key) : ∀ {σ : St} {k' : Key} {o1 : HObj}, (σ.killAll ks).look k' = some o1 → ∃ o2, σ.look k' = some o2 := by
  induction ks with
  | nil => intro σ k' o1 h; exact ⟨_, h⟩
  | cons k ks ih => intro σ k' o1 h; obtain ⟨o2, h2⟩ := ih h; exact kill_some h2

theorem keys_loc (d keep : Nat) (fz : Bool) (f : Opd) (args : List Opd) : AOp.keys d (.call keep fz f args) = (List.range keep).map (.loc d) := rfl

theorem extsOf_look : ∀ (ext : List (List PV)) (i0 i : Nat) (xs : List PV), ext[i]? = some xs → lookH (extsOf i0 ext) (.ext (i0 + i)) = some (.box (xs.map .pv))
  | [], _, _, _, h => by simp at h
  | y :: ext, i0, i, xs, h => by
    cases i with
    | zero => simp at h; subst h; simp [extsOf, lookH]
    | succ i =>
      have := extsOf_look ext (i0 + 1) i xs (by simpa using h)
      have hne : Key.ext i0 ≠ Key.ext (i0 + (i + 1)) := by intro e; injection e with e; omega
      simp only [extsOf, lookH, if_neg hne]
      rw [show i0 + (i + 1) = i0 + 1 + i by omega]
      exact this

theorem argLk_get {ext : List (List PV)} {i : Nat} {xs : List PV} (h : ext[i]? = some xs) : argLk ext (.ext i) = some (.box (xs.map .pv)) := by
  have := extsOf_look ext 0 i xs h
  simpa [argLk] using this

theorem sound_callB {cl : Callee} (hS : Sound P cl) (h : RR C β σ a w) (hd : ∀ i, o.dst = some i → i < C.nt) {c : Call} {fo : Operand} {f' : Opd} {args' : List Opd} (ho : o.op = .call c) (hc : c.callee = .value fo)
    (hf : agreeO fo f' = true) (ha : all2 agreeO c.args.toList args' = true) {keep : Nat} {fz : Bool} {σ' : St} (hb : bstep cl σ o.dst (.call keep fz f' args') = some σ') : StepOK P C σ' o a w := by
  unfold bstep at hb
  cases hdst : o.dst with
  | none => simp only [hdst] at hb; cases hb
  | some d =>
  simp only [hdst] at hb
  cases ht0 : σ.target f' with
  | none => simp only [ht0] at hb; cases hb
  | some p0 =>
  obtain ⟨g0, caps0⟩ := p0
  simp only [ht0] at hb
  have h := h.freezeAll (ownsOf (args'.map σ.ev) ++ ownsIn σ (args'.map σ.ev ++ caps0))
  revert h hb
  generalize σ.freezeAll (ownsOf (args'.map σ.ev) ++ ownsIn σ (args'.map σ.ev ++ caps0)) = σ
  intro hb h
  cases ht : σ.target f' with
  | none => simp only [ht] at hb; cases hb
  | some p =>
  obtain ⟨g, caps⟩ := p
  simp only [ht] at hb
  cases hl : lendAll SV.clean [] (args'.map σ.ev ++ caps) with
  | none => simp only [hl] at hb; cases hb
  | some q =>
  obtain ⟨vs, ks⟩ := q
  simp only [hl] at hb
  cases hh : heldAll σ ks with
  | none => simp only [hh] at hb; cases hb
  | some ext =>
  simp only [hh] at hb
  cases hr : cl g vs ext with
  | none => simp only [hr] at hb; cases hb
  | some r =>
  simp only [hr] at hb
  cases htk : took d keep r with
  | none => simp only [htk] at hb; cases hb
  | some e =>
  simp only [htk] at hb
  cases hbk : backAll (σ.killAll (AOp.keys d (.call keep true f' args'))) ks r.ext with
  | none => simp only [hbk] at hb; cases hb
  | some σ2 =>
  simp only [hbk, Option.some.injEq] at hb
  subst hb
  obtain ⟨us, hfe, hlen, hargs⟩ := args_are h hf ha ht
  obtain ⟨hE, hcon⟩ := hS g vs ext r hr
  obtain ⟨_, hnd, l2, f2⟩ := lendAll_spec (w := w) (β := β) (okX := okB C β σ.look w) (okY := okB C β σ.look w) (lk := σ.look) serves_clean (fun b hb => hb) hl
  have hnd := hnd (by simp)
  obtain ⟨e1, e2⟩ := heldAll_spec hh
  have hlent := f2 ks ⟨[], by simp⟩ (c.args.toList.map a.eval ++ us) hlen hargs
  have hkx : ∀ (i : Nat), i < ext.length → ∃ k xs cs, ks[i]? = some k ∧ ext[i]? = some xs ∧ σ.look k = some (.box cs) ∧ cleanAll cs = some xs ∧ blks β ks i = (β k).b := by
    intro i hi
    have g1 : ks[i]? = some (ks[i]'(by omega)) := List.getElem?_eq_getElem (by omega)
    have g2 : ext[i]? = some ext[i] := List.getElem?_eq_getElem hi
    obtain ⟨cs, q1, q2⟩ := e2 i _ _ g1 g2
    exact ⟨_, _, cs, g1, g2, q1, q2, blks_get g1⟩
  have hex : ∀ i, i < ks.length → ∃ cs, argLk ext (.ext i) = some (.box cs) := by
    intro i hi
    obtain ⟨k, xs, cs, _, g2, _⟩ := hkx i (by omega)
    exact ⟨_, argLk_get g2⟩
  have hcall := hcon w (c.args.toList.map a.eval ++ us) (blks β ks) (okB C β σ.look w)
    (fun b hb => ⟨hb.1, fun i hi e => by obtain ⟨k, xs, cs, _, _, g3, _, g5⟩ := hkx i hi; exact hb.2.1 k _ g3 (g5 ▸ e)⟩)
    (fun i j hi hj e => by
      obtain ⟨k, xs, cs, g1, _, g3, _, g5⟩ := hkx i hi
      obtain ⟨k', xs', cs', g1', _, g3', _, g5'⟩ := hkx j hj
      have := h.inj k k' _ _ g3 g3' (by rw [← g5, ← g5', e])
      subst this
      have q1 : ks[i]'(by omega) = k := by simpa using (List.getElem?_eq_some_iff.1 g1).2
      have q2 : ks[j]'(by omega) = k := by simpa using (List.getElem?_eq_some_iff.1 g1').2
      exact (List.getElem?_inj (i := i) (j := j) (by omega) hnd).1 (g1.trans g1'.symm))
    (fun i xs hx => by
      have hi := (List.getElem?_eq_some_iff.1 hx).1
      obtain ⟨k, xs', cs, g1, g2, g3, g4, g5⟩ := hkx i hi
      rw [hx] at g2; cases g2
      rw [g5]; exact box_is h g3 g4)
    (by rw [l2, hlen])
    (fun j x v hx hv => hlent j x v hx hv _ (by simpa using hex))
  intro K hK Q
  unfold Oper.wp
  rw [run_call ho hc hfe hE, Oper.upon_enter]
  refine hcall.mono fun en w' hen => ?_
  obtain ⟨v, δ, rfl, haft⟩ := hen
  have hkl := h.killAll (AOp.keys d (.call keep true f' args')) (by intro k hk i; rw [keys_loc] at hk; simp at hk; obtain ⟨j, _, rfl⟩ := hk; exact fun e => by cases e)
  rw [e1] at haft
  obtain ⟨β', h', hs⟩ := hkl.tookB hbk hnd haft (fun b hb => ⟨hb.1, fun k o1 hk => by obtain ⟨o2, h2⟩ := killAll_some _ hk; exact hb.2.1 k o2 h2, hb.2.2⟩) htk
    (fun i hi => look_killAll _ _ _ (by rw [keys_loc]; simp; exact hi))
  have h3 := h'.put o.dst e.v v hd hs
  rw [hdst] at h3
  have h4 := hK β' _ _ h3
  rw [← hdst] at h4
  exact h4

end
end Go.Av
