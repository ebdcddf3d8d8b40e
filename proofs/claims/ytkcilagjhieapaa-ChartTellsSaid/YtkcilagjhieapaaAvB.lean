/- What a call is held to, and what its caller makes of it. -/
import Derived.Test.YtkcilagjhieapaaAvA
set_option linter.unusedVariables false
set_option linter.unusedSimpArgs false
namespace Go.Av

/-- A variable of some cells. -/
def BoxIs (w : World) (ok : Nat → Prop) (b : Nat) (xs : List PV) : Prop :=
  ∃ (arr : Array Value) (T : TypeId), w.heap[b]? = some (.cells arr T (0, 0)) ∧ arr.size = xs.length ∧ (∀ u ∈ arr, u.oneCell' = true) ∧
    ∀ (j : Nat) (x : PV) (u : Value), xs[j]? = some x → arr[j]? = some u → Lies w ok x u

def argβ (γ : Nat → Nat) : Key → Blk
  | .ext i => ⟨γ i, 0⟩
  | _ => ⟨0, 0⟩

def argLk (ext : List (List PV)) : Key → Option HObj := lookH (extsOf 0 ext)

def resβ (δ : Nat → Blk) : Key → Blk
  | .res i => δ i
  | _ => ⟨0, 0⟩

def resLk (rows : List (Nat × List PV)) : Key → Option HObj
  | .res i => (rows[i]?).map fun p => .row p.1 p.2
  | _ => none

/-- What may be reached behind the call: what the arguments lead to, and what is new but for the rows that are handed back. -/
def okAft (ok : Nat → Prop) (w w' : World) (δ : Nat → Blk) (m : Nat) (b : Nat) : Prop := ok b ∨ (w.heap.size ≤ b ∧ b < w'.heap.size ∧ ∀ i, i < m → (δ i).b ≠ b)

structure After (w w' : World) (ok : Nat → Prop) (ne : Nat) (γ : Nat → Nat) (r : Res) (v : Value) (δ : Nat → Blk) : Prop where
  size : w.heap.size ≤ w'.heap.size
  frame : ∀ b, b < w.heap.size → (∀ i, i < ne → γ i ≠ b) → w'.heap[b]? = w.heap[b]?
  inj : ∀ i j, i < r.rows.length → j < r.rows.length → (δ i).b = (δ j).b → i = j
  new : ∀ i, i < r.rows.length → w.heap.size ≤ (δ i).b
  exts : r.ext.length = ne ∧ ∀ i xs, r.ext[i]? = some xs → BoxIs w' (okAft ok w w' δ r.rows.length) (γ i) xs
  rows : ∀ i sz xs, r.rows[i]? = some (sz, xs) → HLies w' (okAft ok w w' δ r.rows.length) (resβ δ) (resLk r.rows) (.row sz xs) (δ i)
  val : SLies w' (okAft ok w w' δ r.rows.length) (resβ δ) (resLk r.rows) r.v v
  quiet : Quiet w w'

def Enters (P : Program) (f : FuncId) : Prop := ∃ fn, P.funcs[f]? = some fn ∧ (fn.name == "runtime.NumGoroutine") = false ∧ fn.body.isNone = false

/-- What the machine's call owes to the abstract one. -/
def Contract (P : Program) (f : FuncId) (args : List SV) (ext : List (List PV)) (r : Res) : Prop :=
  Enters P f ∧ ∀ (w : World) (vs : List Value) (γ : Nat → Nat) (ok : Nat → Prop), (∀ b, ok b → b < w.heap.size ∧ ∀ i, i < ext.length → γ i ≠ b) →
    (∀ i j, i < ext.length → j < ext.length → γ i = γ j → i = j) → (∀ i xs, ext[i]? = some xs → BoxIs w ok (γ i) xs) →
    args.length = vs.length → (∀ (j : Nat) (x : SV) (v : Value), args[j]? = some x → vs[j]? = some v → SLies w ok (argβ γ) (argLk ext) x v) →
    Calls P f vs.toArray w fun e w' => ∃ v δ, e = .returned v ∧ After w w' ok ext.length γ r v δ

def Sound (P : Program) (cl : Callee) : Prop := ∀ g args ext r, cl g args ext = some r → Contract P g args ext r

section
variable {P : Program} {C : Ctx} {β : Key → Blk} {σ : St} {a : Act} {w : World} {o : Oper}

/-! ### a call's results as this call's own -/

theorem rowsAt_look (d : Nat) : ∀ (rows : List (Nat × List PV)) (i0 : Nat) (k : Key), lookH (rowsAt d i0 rows) k = match k with
    | .loc d' i => if d' = d ∧ i0 ≤ i then (rows[i - i0]?).map fun p => .row p.1 p.2 else none
    | _ => none
  | [], i0, k => by
    cases k <;> simp [rowsAt, lookH]
  | (sz, xs) :: r, i0, k => by
    have ih := rowsAt_look d r (i0 + 1) k
    simp only [rowsAt, lookH, ih]
    cases k with
    | loc d' i =>
      simp only [Key.loc.injEq]
      by_cases h : d = d' ∧ i0 = i
      · obtain ⟨rfl, rfl⟩ := h
        simp
      · rw [if_neg h]
        by_cases h2 : d' = d ∧ i0 ≤ i
        · obtain ⟨rfl, h2⟩ := h2
          have hne : i0 ≠ i := fun e => h ⟨rfl, e⟩
          rw [if_pos ⟨rfl, by omega⟩, if_pos ⟨rfl, h2⟩]
          rw [show i - i0 = (i - (i0 + 1)) + 1 by omega, List.getElem?_cons_succ]
        · rw [if_neg (by omega), if_neg h2]
    | ext i => simp
    | res i => simp

theorem look_insRows (d : Nat) (rows : List (Nat × List PV)) (k : Key) : (σ.insAll (rowsAt d 0 rows)).look k = (match k with
    | .loc d' i => if d' = d then (rows[i]?).map fun p => .row p.1 p.2 else none
    | _ => none : Option HObj).or (σ.look k) := by
  unfold St.insAll St.look
  simp only [lookH_append, rowsAt_look]
  cases k <;> simp

/-- The world has grown; rows have got names. -/
theorem RR.rows (h : RR C β σ a w) {w' : World} (hsz : w.heap.size ≤ w'.heap.size) (hq : Quiet w w') (hfr : ∀ b, b < w.heap.size → w'.heap[b]? = w.heap[b]?) (d : Nat) (rows : List (Nat × List PV)) (δ : Nat → Blk)
    (hinj : ∀ i j, i < rows.length → j < rows.length → (δ i).b = (δ j).b → i = j) (hnew : ∀ i, i < rows.length → w.heap.size ≤ (δ i).b) (hfresh : ∀ i, i < rows.length → σ.look (.loc d i) = none)
    (hrows : ∀ i sz xs, rows[i]? = some (sz, xs) → ∃ arr T, w'.heap[(δ i).b]? = some (.cells arr T (0, 0)) ∧ xs.length ≤ (δ i).c ∧ arr.size = (δ i).c * sz ∧ (∀ x ∈ xs, x.cells.length = sz ∧ x.fine) ∧
      ∀ (i j : Nat) (x y : PV), xs[i]? = some x → x.cells[j]? = some y → ∃ u, arr[i * sz + j]? = some u ∧ Lies w' (okAft (okB C β σ.look w) w w' δ rows.length) y u) :
    ∃ β', (∀ i, i < rows.length → β' (.loc d i) = δ i) ∧ RR C β' (σ.insAll (rowsAt d 0 rows)) a w' ∧
      (∀ b, okAft (okB C β σ.look w) w w' δ rows.length b → okB C β' (σ.insAll (rowsAt d 0 rows)).look w' b) ∧
      (∀ i sz xs, rows[i]? = some (sz, xs) → (σ.insAll (rowsAt d 0 rows)).look (.loc d i) = some (.row sz xs)) := by
  let β' : Key → Blk := fun k => match k with
    | .loc d' i => if d' = d ∧ i < rows.length then δ i else β k
    | _ => β k
  have b2 : ∀ i, i < rows.length → β' (.loc d i) = δ i := fun i hi => by simp [β', hi]
  have hback : ∀ k o', (σ.insAll (rowsAt d 0 rows)).look k = some o' → (∃ i sz xs, k = .loc d i ∧ rows[i]? = some (sz, xs) ∧ o' = .row sz xs) ∨ ((∀ i, i < rows.length → k ≠ .loc d i) ∧ σ.look k = some o' ∧ β' k = β k) := by
    intro k o' hk
    rw [look_insRows] at hk
    cases k with
    | loc d' i =>
      simp only at hk
      by_cases e : d' = d
      · subst e
        rw [if_pos rfl] at hk
        cases hr : rows[i]? with
        | some p =>
          obtain ⟨sz, xs⟩ := p
          rw [hr] at hk; simp at hk
          exact .inl ⟨i, sz, xs, rfl, hr, hk.symm⟩
        | none =>
          rw [hr] at hk; simp at hk
          have hge : ¬ i < rows.length := by have := List.getElem?_eq_none_iff.1 hr; omega
          exact .inr ⟨fun i' hi' e => by cases e; exact hge hi', hk, by simp [β', hge]⟩
      · rw [if_neg e] at hk; simp at hk
        exact .inr ⟨fun i' hi' e2 => by cases e2; exact e rfl, hk, by simp [β', e]⟩
    | ext i => simp at hk; exact .inr ⟨fun i' hi' e => (by cases e), hk, rfl⟩
    | res i => simp at hk; exact .inr ⟨fun i' hi' e => (by cases e), hk, rfl⟩
  have hkeep : ∀ k o', σ.look k = some o' → (σ.insAll (rowsAt d 0 rows)).look k = some o' ∧ β' k = β k := by
    intro k o' hk
    rw [look_insRows]
    cases k with
    | loc d' i =>
      by_cases e : d' = d
      · subst e
        have hge : ¬ i < rows.length := fun hi => by rw [hfresh i hi] at hk; cases hk
        simp only [if_true]
        rw [List.getElem?_eq_none_iff.2 (by omega)]
        exact ⟨by simpa using hk, by simp [β', hge]⟩
      · simp only [e, if_false]
        exact ⟨by simpa using hk, by simp [β', e]⟩
    | ext i => exact ⟨by simpa using hk, rfl⟩
    | res i => exact ⟨by simpa using hk, rfl⟩
  have hlk : ∀ i sz xs, rows[i]? = some (sz, xs) → (σ.insAll (rowsAt d 0 rows)).look (.loc d i) = some (.row sz xs) := by
    intro i sz xs hr
    rw [look_insRows]
    simp [hr]
  have hok : ∀ b, okAft (okB C β σ.look w) w w' δ rows.length b → okB C β' (σ.insAll (rowsAt d 0 rows)).look w' b := by
    intro b hb
    have hcs := h.size
    rcases hb with hb | ⟨h1, h2, h3⟩
    · refine ⟨by have := hb.1; omega, fun k o' hk => ?_, hb.2.2⟩
      rcases hback k o' hk with ⟨i, sz, xs, rfl, hr, _⟩ | ⟨_, hk', e⟩
      · have hi := (List.getElem?_eq_some_iff.1 hr).1
        rw [b2 i hi]; have := hnew i hi; have := hb.1; omega
      · rw [e]; exact hb.2.1 k o' hk'
    · refine ⟨h2, fun k o' hk => ?_, fun hlt => by omega⟩
      rcases hback k o' hk with ⟨i, sz, xs, rfl, hr, _⟩ | ⟨_, hk', e⟩
      · have hi := (List.getElem?_eq_some_iff.1 hr).1
        rw [b2 i hi]; exact h3 i hi
      · rw [e]; have := h.blk_lt hk'; omega
  have hkp : Keeps (okB C β σ.look w) w w' := by
    intro b hb off u hu
    simp only [World.cell?, hfr b hb.1]
    exact hu
  have mono : ∀ {x : SV} {v : Value}, SLies w (okB C β σ.look w) β σ.look x v → SLies w' (okB C β' (σ.insAll (rowsAt d 0 rows)).look w') β' (σ.insAll (rowsAt d 0 rows)).look x v := fun hx =>
    hx.mono hkp (fun b hb => hok b (.inl hb)) (fun k o' hk => ⟨o', (hkeep k o' hk).1, o'.sim_refl, (hkeep k o' hk).2⟩)
  refine ⟨β', b2, ⟨h.tsz, h.dfs, ?_, ?_, ?_, ?_, ?_, fun t => mono (h.slots t), Nat.le_trans h.size hsz, ?_, h.quiet.trans hq⟩, hok, hlk⟩
  · intro k1 k2 o1 o2 h1 h2 e
    rcases hback k1 o1 h1 with ⟨i, sz, xs, rfl, hr, _⟩ | ⟨_, h1', e1⟩
    · have hi := (List.getElem?_eq_some_iff.1 hr).1
      rw [b2 i hi] at e
      rcases hback k2 o2 h2 with ⟨j, sz', xs', rfl, hr', _⟩ | ⟨_, h2', e2⟩
      · have hj := (List.getElem?_eq_some_iff.1 hr').1
        rw [b2 j hj] at e
        rw [hinj i j hi hj e]
      · rw [e2] at e; have := h.blk_lt h2'; have := hnew i hi; omega
    · rw [e1] at e
      rcases hback k2 o2 h2 with ⟨j, sz', xs', rfl, hr', _⟩ | ⟨_, h2', e2⟩
      · have hj := (List.getElem?_eq_some_iff.1 hr').1
        rw [b2 j hj] at e
        have := h.blk_lt h1'; have := hnew j hj; omega
      · rw [e2] at e; exact h.inj k1 k2 o1 o2 h1' h2' e
  · intro k o' hk
    rcases hback k o' hk with ⟨i, sz, xs, rfl, hr, rfl⟩ | ⟨_, hk', e⟩
    · have hi := (List.getElem?_eq_some_iff.1 hr).1
      rw [b2 i hi]
      obtain ⟨arr, T, g1, g2, g3, g4, g5⟩ := hrows i sz xs hr
      refine ⟨arr, T, g1, g2, g3, g4, fun i j x y hx hy => ?_⟩
      obtain ⟨u, hu, hL⟩ := g5 i j x y hx hy
      exact ⟨u, hu, hL.mono (fun b _ off u hu => hu) hok⟩
    · refine (h.objs k o' hk').mono hkp (fun b hb => hok b (.inl hb)) e (hfr _ (h.blk_lt hk')) (fun k2 o2 _ h2 => ⟨o2, (hkeep k2 o2 h2).1, o2.sim_refl, (hkeep k2 o2 h2).2⟩)
  · intro k o' hk hx
    rcases hback k o' hk with ⟨i, sz, xs, rfl, hr, _⟩ | ⟨_, hk', e⟩
    · have hi := (List.getElem?_eq_some_iff.1 hr).1
      rw [b2 i hi]; exact Nat.le_trans h.size (hnew i hi)
    · rw [e]; exact h.lo k o' hk' hx
  · intro i hi
    obtain ⟨cs, hcs⟩ := h.ext1 i hi
    exact ⟨cs, (hkeep _ _ hcs).1⟩
  · intro i o' hk
    rcases hback _ o' hk with ⟨j, sz, xs, e, _⟩ | ⟨_, hk', e⟩
    · cases e
    · rw [e]; exact h.ext2 i o' hk'
  · intro b hb hx
    have hs := h.size
    rw [hfr b (by omega)]; exact h.frame b hb hx

/-! ### arguments -/

/-- What is handed on: names lent are numbered in their order. -/
def Lent (w : World) (okX : Nat → Prop) (γ : Nat → Nat) (n : Nat) (x : SV) (v : Value) : Prop :=
  ∀ lk : Key → Option HObj, (∀ i, i < n → ∃ cs, lk (.ext i) = some (.box cs)) → SLies w okX (argβ γ) lk x v

theorem Lent.mono {okX : Nat → Prop} {γ : Nat → Nat} {n m : Nat} {x : SV} {v : Value} (h : Lent w okX γ n x v) (hle : n ≤ m) : Lent w okX γ m x v :=
  fun lk hlk => h lk (fun i hi => hlk i (by omega))

theorem idxOf_spec {ks : List Key} {k : Key} {i : Nat} (h : ks.idxOf? k = some i) : ks[i]? = some k := by
  induction ks generalizing i with
  | nil => simp [List.idxOf?] at h
  | cons k' ks ih =>
    simp only [List.idxOf?, List.findIdx?_cons] at h ih
    by_cases e : (k' == k) = true
    · rw [if_pos e] at h; simp at h; subst h; simp at e; subst e; rfl
    · rw [if_neg e] at h
      simp only [Option.map_eq_some_iff] at h
      obtain ⟨j, hj, rfl⟩ := h
      simpa using ih hj

/-- The blocks of names. -/
def blks (β : Key → Blk) (ks : List Key) (i : Nat) : Nat := (β (ks.getD i (.res 0))).b

theorem blks_get {ks : List Key} {i : Nat} {k : Key} (h : ks[i]? = some k) : blks β ks i = (β k).b := by simp [blks, List.getD, h]

theorem lendC_spec {okX : Nat → Prop} {lk : Key → Option HObj} : ∀ {cs : List SV} {ks : List Key} {cs' : List SV} {ks' : List Key}, lendC ks cs = some (cs', ks') →
    (∃ more, ks' = ks ++ more ∧ ∀ k ∈ more, k ∉ ks) ∧ cs'.length = cs.length ∧ (ks.Nodup → ks'.Nodup) ∧ ∀ (fin : List Key), (∃ more, fin = ks' ++ more) →
      ∀ (us : List Value), cs.length = us.length → (∀ (j : Nat) (x : SV) (u : Value), cs[j]? = some x → us[j]? = some u → SLies w okX β lk x u) →
        ∀ (j : Nat) (x : SV) (u : Value), cs'[j]? = some x → us[j]? = some u → Lent w okX (blks β fin) fin.length x u
  | [], ks, cs', ks', h => by
    simp only [lendC, Option.some.injEq, Prod.mk.injEq] at h
    obtain ⟨rfl, rfl⟩ := h
    exact ⟨⟨[], by simp⟩, rfl, id, by simp⟩
  | .ptr k off :: cs, ks, cs', ks', h => by
    simp only [lendC] at h
    cases hi : ks.idxOf? k with
    | some i =>
      rw [hi] at h
      simp only at h
      cases hr : lendC ks cs with
      | none => rw [hr] at h; cases h
      | some p =>
        obtain ⟨c2, k2⟩ := p
        rw [hr] at h; cases h
        obtain ⟨⟨more, e1, e2⟩, e3, e4, e5⟩ := lendC_spec (okX := okX) (lk := lk) hr
        refine ⟨⟨more, e1, e2⟩, by simp [e3], e4, fun fin hfin us hl hu j x u hx hju => ?_⟩
        cases us with
        | nil => simp at hl
        | cons u0 us =>
          cases j with
          | zero =>
            simp at hx hju; subst hx; subst hju
            have h0 := hu 0 _ u0 rfl rfl
            obtain ⟨m2, rfl⟩ := hfin
            subst e1
            have hk := idxOf_spec hi
            have hlt := (List.getElem?_eq_some_iff.1 hk).1
            intro lk' hlk'
            obtain ⟨cs1, hcs1⟩ := hlk' i (by simp; omega)
            cases h0
            have := SLies.ptr (w := w) (ok := okX) (β := argβ (blks β (ks ++ more ++ m2))) (lk := lk') (.ext i) off cs1 hcs1
            simp only [argβ] at this
            rw [blks_get (k := k) (by rw [List.append_assoc, List.getElem?_append_left hlt]; exact hk)] at this
            exact this
          | succ j =>
            exact e5 fin hfin us (by simpa using hl) (fun j x u hx hu' => hu (j + 1) x u (by simpa using hx) (by simpa using hu')) j x u (by simpa using hx) (by simpa using hju)
    | none =>
      rw [hi] at h
      simp only at h
      cases hr : lendC (ks ++ [k]) cs with
      | none => rw [hr] at h; cases h
      | some p =>
        obtain ⟨c2, k2⟩ := p
        rw [hr] at h; cases h
        have hnot : k ∉ ks := by
          intro hm
          have : ks.idxOf? k ≠ none := by
            simp only [List.idxOf?, ne_eq, List.findIdx?_eq_none_iff]
            exact fun h => by have := h k hm; simp at this
          exact this hi
        obtain ⟨⟨more, e1, e2⟩, e3, e4, e5⟩ := lendC_spec (okX := okX) (lk := lk) hr
        refine ⟨⟨k :: more, by rw [e1]; simp, ?_⟩, by simp [e3], fun hnd => e4 ?_, fun fin hfin us hl hu j x u hx hju => ?_⟩
        · intro q hq
          simp at hq
          rcases hq with rfl | hq
          · exact hnot
          · exact fun hm => e2 q hq (by simp [hm])
        · rw [List.nodup_append]
          exact ⟨hnd, by simp, by intro q hq r hr e; simp at hr; subst hr; subst e; exact hnot hq⟩
        · cases us with
          | nil => simp at hl
          | cons u0 us =>
            cases j with
            | zero =>
              simp at hx hju; subst hx; subst hju
              have h0 := hu 0 _ u0 rfl rfl
              obtain ⟨m2, rfl⟩ := hfin
              subst e1
              intro lk' hlk'
              obtain ⟨cs1, hcs1⟩ := hlk' ks.length (by simp only [List.length_append, List.length_cons]; omega)
              cases h0
              have := SLies.ptr (w := w) (ok := okX) (β := argβ (blks β (ks ++ [k] ++ more ++ m2))) (lk := lk') (.ext ks.length) off cs1 hcs1
              simp only [argβ] at this
              rw [blks_get (k := k) (by simp)] at this
              exact this
            | succ j =>
              exact e5 fin hfin us (by simpa using hl) (fun j x u hx hu' => hu (j + 1) x u (by simpa using hx) (by simpa using hu')) j x u (by simpa using hx) (by simpa using hju)
  | .pv y :: cs, ks, cs', ks', h => by
    simp only [lendC] at h
    cases hr : lendC ks cs with
    | none => rw [hr] at h; cases h
    | some p =>
      obtain ⟨c2, k2⟩ := p
      rw [hr] at h; cases h
      obtain ⟨⟨more, e1, e2⟩, e3, e4, e5⟩ := lendC_spec (okX := okX) (lk := lk) hr
      refine ⟨⟨more, e1, e2⟩, by simp [e3], e4, fun fin hfin us hl hu j x u hx hju => ?_⟩
      cases us with
      | nil => simp at hl
      | cons u0 us =>
        cases j with
        | zero =>
          simp at hx hju; subst hx; subst hju
          exact fun lk' _ => .pv _ _ (slies_pv (hu 0 _ u0 rfl rfl))
        | succ j =>
          exact e5 fin hfin us (by simpa using hl) (fun j x u hx hu' => hu (j + 1) x u (by simpa using hx) (by simpa using hu')) j x u (by simpa using hx) (by simpa using hju)
  | .nils :: _, _, _, _, h => by simp [lendC] at h
  | .own _ :: _, _, _, _, h => by simp [lendC] at h
  | .iown _ _ _ :: _, _, _, _, h => by simp [lendC] at h
  | .ipv _ _ :: _, _, _, _, h => by simp [lendC] at h
  | .agg _ :: _, _, _, _, h => by simp [lendC] at h
  | .tup _ :: _, _, _, _, h => by simp [lendC] at h
  | .fn _ _ :: _, _, _, _, h => by simp [lendC] at h
  | .dead :: _, _, _, _, h => by simp [lendC] at h

/-- A way to make a value without names serves. -/
def Serves (w : World) (okX : Nat → Prop) (β : Key → Blk) (lk : Key → Option HObj) (okY : Nat → Prop) (pu : SV → Option PV) : Prop :=
  ∀ x v p, SLies w okY β lk x v → pu x = some p → Lies w okX p v

theorem lend1_spec {okX okY : Nat → Prop} {lk : Key → Option HObj} {pu : SV → Option PV} (hpu : Serves w okX β lk okY pu) (hok : ∀ b, okY b → okX b) {ks : List Key} {x x' : SV} {ks' : List Key} (h : lend1 pu ks x = some (x', ks')) :
    (∃ more, ks' = ks ++ more) ∧ (ks.Nodup → ks'.Nodup) ∧ ∀ (fin : List Key), (∃ more, fin = ks' ++ more) → ∀ v, SLies w okY β lk x v → Lent w okX (blks β fin) fin.length x' v := by
  have other : (∀ f cs, x ≠ .fn f cs) → (∀ k o, x ≠ .ptr k o) → x ≠ .nils → (∃ more, ks' = ks ++ more) ∧ (ks.Nodup → ks'.Nodup) ∧ ∀ (fin : List Key), (∃ more, fin = ks' ++ more) → ∀ v, SLies w okY β lk x v → Lent w okX (blks β fin) fin.length x' v := by
    intro h1 h2 h3
    have h' : (match pu x with | some p => some (SV.pv p, ks) | none => none) = some (x', ks') := by
      cases x <;> first | exact h | exact absurd rfl (h1 _ _) | exact absurd rfl (h2 _ _) | exact absurd rfl h3
    cases hp : pu x with
    | none => rw [hp] at h'; cases h'
    | some p =>
      rw [hp] at h'; simp at h'
      obtain ⟨rfl, rfl⟩ := h'
      exact ⟨⟨[], by simp⟩, id, fun fin _ v hv lk' _ => .pv _ _ (hpu x v p hv hp)⟩
  cases x with
  | fn f caps =>
    simp only [lend1] at h
    cases hr : lendC ks caps with
    | none => rw [hr] at h; cases h
    | some q =>
      obtain ⟨c2, k2⟩ := q
      rw [hr] at h; cases h
      obtain ⟨⟨more, e1, _⟩, e3, e4, e5⟩ := lendC_spec (w := w) (β := β) (okX := okX) (lk := lk) hr
      refine ⟨⟨more, e1⟩, e4, fun fin hfin v hv lk' hlk' => ?_⟩
      cases hv with
      | fn _ _ us hl hs =>
        have := e5 fin hfin us hl (fun j x u hx hu => (hs j x u hx hu).mono (fun b _ off u hu => hu) hok (fun k o hk => ⟨o, hk, o.sim_refl, rfl⟩))
        exact .fn f c2 us (by rw [e3, hl]) (fun j x u hx hu => this j x u hx hu lk' hlk')
  | ptr k off =>
    simp only [lend1] at h
    cases hr : lendC ks [.ptr k off] with
    | none => rw [hr] at h; cases h
    | some q =>
      obtain ⟨c2, k2⟩ := q
      rw [hr] at h
      match c2, h, hr with
      | [y], h, hr =>
        simp at h
        obtain ⟨rfl, rfl⟩ := h
        obtain ⟨⟨more, e1, _⟩, e3, e4, e5⟩ := lendC_spec (w := w) (β := β) (okX := okX) (lk := lk) hr
        refine ⟨⟨more, e1⟩, e4, fun fin hfin v hv => ?_⟩
        have := e5 fin hfin [v] (by simp) (fun j x u hx hu => by
          cases j with
          | zero => simp at hx hu; subst hx; subst hu; exact hv.mono (fun b _ off u hu => hu) hok (fun k o hk => ⟨o, hk, o.sim_refl, rfl⟩)
          | succ j => simp at hx)
        exact this 0 y v rfl rfl
      | [], h, _ => simp at h
      | _ :: _ :: _, h, _ => simp at h
  | pv p => exact other (by simp) (by simp) (by simp)
  | nils =>
    simp only [lend1, Option.some.injEq, Prod.mk.injEq] at h
    obtain ⟨rfl, rfl⟩ := h
    refine ⟨⟨[], by simp⟩, id, fun fin _ v hv lk' _ => ?_⟩
    cases hv
    exact .nils _
  | own k => exact other (by simp) (by simp) (by simp)
  | iown k i o => exact other (by simp) (by simp) (by simp)
  | ipv e o => exact other (by simp) (by simp) (by simp)
  | agg cs => exact other (by simp) (by simp) (by simp)
  | tup cs => exact other (by simp) (by simp) (by simp)
  | dead => exact other (by simp) (by simp) (by simp)

theorem lendAll_spec {okX okY : Nat → Prop} {lk : Key → Option HObj} {pu : SV → Option PV} (hpu : Serves w okX β lk okY pu) (hok : ∀ b, okY b → okX b) : ∀ {xs : List SV} {ks : List Key} {xs' : List SV} {ks' : List Key}, lendAll pu ks xs = some (xs', ks') →
    (∃ more, ks' = ks ++ more) ∧ (ks.Nodup → ks'.Nodup) ∧ xs'.length = xs.length ∧ ∀ (fin : List Key), (∃ more, fin = ks' ++ more) → ∀ (vs : List Value), xs.length = vs.length → (∀ (j : Nat) (x : SV) (v : Value), xs[j]? = some x → vs[j]? = some v → SLies w okY β lk x v) →
      ∀ (j : Nat) (x : SV) (v : Value), xs'[j]? = some x → vs[j]? = some v → Lent w okX (blks β fin) fin.length x v
  | [], ks, xs', ks', h => by
    simp only [lendAll, Option.some.injEq, Prod.mk.injEq] at h
    obtain ⟨rfl, rfl⟩ := h
    exact ⟨⟨[], by simp⟩, id, rfl, by simp⟩
  | x :: xs, ks, xs', ks', h => by
    simp only [lendAll] at h
    cases h1 : lend1 pu ks x with
    | none => rw [h1] at h; cases h
    | some p =>
      obtain ⟨x1, k1⟩ := p
      rw [h1] at h
      simp only at h
      cases h2 : lendAll pu k1 xs with
      | none => rw [h2] at h; cases h
      | some q =>
        obtain ⟨x2, k2⟩ := q
        rw [h2] at h; cases h
        obtain ⟨⟨m1, e1⟩, n1, f1⟩ := lend1_spec hpu hok h1
        obtain ⟨⟨m2, e2⟩, n2, l2, f2⟩ := lendAll_spec hpu hok h2
        refine ⟨⟨m1 ++ m2, by rw [e2, e1, List.append_assoc]⟩, fun hnd => n2 (n1 hnd), by simp [l2], fun fin hfin vs hl hv j y v hy hjv => ?_⟩
        cases vs with
        | nil => simp at hl
        | cons v0 vs =>
          cases j with
          | zero =>
            simp at hy hjv; subst hy; subst hjv
            obtain ⟨m3, rfl⟩ := hfin
            exact f1 _ ⟨m2 ++ m3, by rw [e2, List.append_assoc]⟩ v0 (hv 0 x v0 rfl rfl)
          | succ j =>
            exact f2 fin hfin vs (by simpa using hl) (fun j x v hx hv' => hv (j + 1) x v (by simpa using hx) (by simpa using hv')) j y v (by simpa using hy) (by simpa using hjv)

/-! ### the result -/

theorem scalar_lies {ok ok' : Nat → Prop} {w' : World} {x : PV} {v : Value} (h : Lies w ok x v) : x.scalar = true → Lies w' ok' x v := by
  induction h with
  | int k n => intro _; exact .int k n
  | bool b => intro _; exact .bool b
  | str s => intro _; exact .str s
  | fn f => intro _; exact .fn f
  | nilFn => intro _; exact .nilFn
  | nilI => intro _; exact .nilI
  | iface t x v _ ih => intro hs; exact .iface t x v (ih (by simpa [PV.scalar] using hs))
  | agg cs us hl h1 _ ih =>
    intro hs
    simp only [PV.scalar] at hs
    exact .agg cs us hl h1 (fun j x u hx hu => ih j x u hx hu (scal hs (List.mem_of_getElem? hx)))
  | slice xs a n c sz us hn hc hsz h1 hat hp _ _ =>
    intro hs
    cases xs with
    | cons _ _ => simp [PV.scalar] at hs
    | nil =>
      simp at hn; subst hn
      exact .slice [] a 0 c sz us rfl hc (by simp) (by simp) (by intro i j hi; omega) (by omega) (by simp)
where
  scal {cs : List PV} {x : PV} (h : PV.scalar.scalarL cs = true) (hx : x ∈ cs) : x.scalar = true := by
    induction cs with
    | nil => simp at hx
    | cons c cs ih =>
      simp only [PV.scalar.scalarL, Bool.and_eq_true] at h
      simp at hx
      rcases hx with rfl | hx
      · exact h.1
      · exact ih h.2 hx

theorem scalarS_lies {ok ok' : Nat → Prop} {w' : World} {β β' : Key → Blk} {lk lk' : Key → Option HObj} {x : SV} {v : Value} (h : SLies w ok β lk x v) : x.scalar = true → SLies w' ok' β' lk' x v := by
  induction h with
  | pv x v h => intro hs; exact .pv _ _ (scalar_lies h (by simpa [SV.scalar] using hs))
  | nils => intro _; exact .nils _
  | tup cs us hl _ ih => intro hs; exact .tup cs us hl (fun j x u hx hu => ih j x u hx hu (scal (by simpa [SV.scalar] using hs) (List.mem_of_getElem? hx)))
  | ptr k off cs hk => intro hs; simp [SV.scalar] at hs
  | own k sz xs hk => intro hs; simp [SV.scalar] at hs
  | iown k i off sz xs hk hi => intro hs; simp [SV.scalar] at hs
  | ipv x off b o us hb h1 hat h => intro hs; simp [SV.scalar] at hs
  | agg cs us hl _ h1 _ => intro hs; simp [SV.scalar] at hs
  | fn f cs us hl _ _ => intro hs; simp [SV.scalar] at hs
  | dead v => intro hs; simp [SV.scalar] at hs
where
  scal {cs : List SV} {x : SV} (h : SV.scalar.scalarT cs = true) (hx : x ∈ cs) : x.scalar = true := by
    induction cs with
    | nil => simp at hx
    | cons c cs ih =>
      simp only [SV.scalar.scalarT, Bool.and_eq_true] at h
      simp at hx
      rcases hx with rfl | hx
      · exact h.1
      · exact ih h.2 hx

theorem renL_spec (d : Nat) : ∀ (cs : List SV), (SV.ren.renL d cs).length = cs.length ∧ ∀ (j : Nat) (x : SV), (SV.ren.renL d cs)[j]? = some x → ∃ y, cs[j]? = some y ∧ x = y.ren d
  | [] => by simp [SV.ren.renL]
  | c :: cs => by
    obtain ⟨h1, h2⟩ := renL_spec d cs
    refine ⟨by simp [SV.ren.renL, h1], fun j x hx => ?_⟩
    cases j with
    | zero => simp [SV.ren.renL] at hx; exact ⟨c, rfl, hx.symm⟩
    | succ j => simp [SV.ren.renL] at hx; simpa using h2 j x hx

/-- A result with its rows named anew. -/
theorem ren_lies {w' : World} {ok ok' : Nat → Prop} {δ : Nat → Blk} {rows : List (Nat × List PV)} {β' : Key → Blk} {lk' : Key → Option HObj} {d : Nat} (hok : ∀ b, ok b → ok' b) (hβ : ∀ i, i < rows.length → β' (.loc d i) = δ i)
    (hlk : ∀ i sz xs, rows[i]? = some (sz, xs) → lk' (.loc d i) = some (.row sz xs)) {x : SV} {v : Value} (h : SLies w' ok (resβ δ) (resLk rows) x v) : SLies w' ok' β' lk' (x.ren d) v := by
  induction h with
  | pv x v h => exact .pv _ _ (h.mono (fun b _ off u hu => hu) hok)
  | nils => exact .nils _
  | ptr k off cs hk => cases k <;> simp [resLk] at hk
  | own k sz xs hk =>
    cases k with
    | loc d i => simp [resLk] at hk
    | ext i => simp [resLk] at hk
    | res i =>
      simp only [resLk, Option.map_eq_some_iff] at hk
      obtain ⟨p, hp, e⟩ := hk
      obtain ⟨sz', xs'⟩ := p
      simp at e
      obtain ⟨rfl, rfl⟩ := e
      have hi := (List.getElem?_eq_some_iff.1 hp).1
      have := SLies.own (w := w') (ok := ok') (β := β') (lk := lk') (.loc d i) sz' xs' (hlk i sz' xs' hp)
      rw [hβ i hi] at this
      exact this
  | iown k i off sz xs hk hi => exact .dead _
  | ipv x off b o us hb h1 hat h => exact .ipv x off b o us (hok _ hb) h1 hat (fun j y hy => (h j y hy).mono (fun b _ off u hu => hu) hok)
  | agg cs us hl _ h1 ih =>
    obtain ⟨e1, e2⟩ := renL_spec d cs
    exact .agg _ us (by rw [e1, hl]) (fun j x u hx hu => by obtain ⟨y, hy, rfl⟩ := e2 j x hx; exact ih j y u hy hu) h1
  | tup cs us hl _ ih =>
    obtain ⟨e1, e2⟩ := renL_spec d cs
    exact .tup _ us (by rw [e1, hl]) (fun j x u hx hu => by obtain ⟨y, hy, rfl⟩ := e2 j x hx; exact ih j y u hy hu)
  | fn f cs us hl _ ih => exact .dead _
  | dead v => exact .dead v

theorem flatL_spec {rows : List (Nat × List PV)} : ∀ {cs cs' : List SV}, SV.flatR.flatL rows cs = some cs' → cs'.length = cs.length ∧ ∀ (j : Nat) (x : SV), cs'[j]? = some x → ∃ y, cs[j]? = some y ∧ y.flatR rows = some x
  | [], cs', h => by simp [SV.flatR.flatL] at h; subst h; simp
  | c :: cs, cs', h => by
    simp only [SV.flatR.flatL] at h
    cases h1 : c.flatR rows with
    | none => rw [h1] at h; cases h
    | some c1 =>
      cases h2 : SV.flatR.flatL rows cs with
      | none => rw [h1, h2] at h; cases h
      | some c2 =>
        rw [h1, h2] at h; cases h
        obtain ⟨e1, e2⟩ := flatL_spec h2
        refine ⟨by simp [e1], fun j x hx => ?_⟩
        cases j with
        | zero => simp at hx; subst hx; exact ⟨c, rfl, h1⟩
        | succ j => simpa using e2 j x (by simpa using hx)

/-- A row that is nobody's any more. -/
theorem row_lies {w' : World} {ok ok' : Nat → Prop} {sz : Nat} {xs : List PV} {B : Blk} {β : Key → Blk} {lk : Key → Option HObj} (h : HLies w' ok β lk (.row sz xs) B) (hok : ∀ b, ok b → ok' b) (hB : ok' B.b) : Lies w' ok' (.slice xs) (.slice (some ⟨B.b, 0, none⟩) xs.length B.c) := by
  obtain ⟨arr, T, h1, h2, h3, h4, h5⟩ := h
  refine .slice xs _ _ _ sz (fun i j => arr.getD (i * sz + j) undef) rfl h2 (fun x hx => (h4 x hx).1) (fun x hx => (h4 x hx).2) ?_ (fun _ => ⟨_, rfl, rfl⟩) ?_
  · intro i j hi hj
    refine ⟨_, rfl, rfl, hB, ?_⟩
    have hm := List.getElem_mem hi
    have hjl : j < xs[i].cells.length := by rw [(h4 _ hm).1]; exact hj
    obtain ⟨u, hu, _⟩ := h5 i j _ _ (List.getElem?_eq_getElem hi) (List.getElem?_eq_getElem hjl)
    have hlt := (Array.getElem?_eq_some_iff.1 hu).1
    simp only [World.cell?, h1]
    simp [hlt]
  · intro i j x y hx hy
    obtain ⟨u, hu, hl⟩ := h5 i j x y hx hy
    have : arr.getD (i * sz + j) undef = u := by
      obtain ⟨hlt, rfl⟩ := Array.getElem?_eq_some_iff.1 hu
      simp [Array.getD, hlt]
    rw [this]; exact hl.mono (fun b _ off u hu => hu) hok

theorem flat_lies {w' : World} {ok ok' : Nat → Prop} {δ : Nat → Blk} {rows : List (Nat × List PV)} {β' : Key → Blk} {lk' : Key → Option HObj} (hok : ∀ b, ok b → ok' b) (hδ : ∀ i, i < rows.length → ok' (δ i).b)
    (hrows : ∀ i sz xs, rows[i]? = some (sz, xs) → HLies w' ok (resβ δ) (resLk rows) (.row sz xs) (δ i)) {x : SV} {v : Value} (h : SLies w' ok (resβ δ) (resLk rows) x v) : ∀ y, x.flatR rows = some y → SLies w' ok' β' lk' y v := by
  induction h with
  | pv x v h => intro y hy; simp [SV.flatR] at hy; subst hy; exact .pv _ _ (h.mono (fun b _ off u hu => hu) hok)
  | nils =>
    intro y hy; simp [SV.flatR] at hy; subst hy
    exact .pv _ _ (.slice [] _ 0 0 0 (fun _ _ => undef) rfl (Nat.le_refl _) (by simp) (by simp) (by intro i j hi; omega) (by omega) (by simp))
  | ptr k off cs hk => intro y hy; simp [SV.flatR] at hy
  | own k sz xs hk =>
    intro y hy
    cases k with
    | loc d i => simp [SV.flatR] at hy
    | ext i => simp [SV.flatR] at hy
    | res i =>
      simp only [resLk, Option.map_eq_some_iff] at hk
      obtain ⟨⟨sz', xs'⟩, hp, e⟩ := hk
      simp at e
      obtain ⟨rfl, rfl⟩ := e
      simp only [SV.flatR, hp, Option.some.injEq] at hy
      subst hy
      exact .pv _ _ (row_lies (hrows i sz' xs' hp) hok (hδ i (List.getElem?_eq_some_iff.1 hp).1))
  | iown k i off sz xs hk hi => intro y hy; simp [SV.flatR] at hy
  | ipv x off b o us hb h1 hat h => intro y hy; simp [SV.flatR] at hy
  | agg cs us hl _ h1 ih =>
    intro y hy
    simp only [SV.flatR] at hy
    cases hf : SV.flatR.flatL rows cs with
    | none => rw [hf] at hy; cases hy
    | some cs' =>
      rw [hf] at hy
      simp only at hy
      obtain ⟨e1, e2⟩ := flatL_spec hf
      obtain ⟨u, hu, hs⟩ := ofCells_lie (w := w') (ok := ok') (β := β') (lk := lk') (us := us) hy ⟨by rw [e1, hl], h1, fun j x u hx hu => by obtain ⟨z, hz, hzx⟩ := e2 j x hx; exact ih j z u hz hu x hzx⟩
      simp only [ofVals, cond_true, Option.some.injEq] at hu
      subst hu
      exact hs
  | tup cs us hl _ ih =>
    intro y hy
    simp only [SV.flatR, Option.map_eq_some_iff] at hy
    obtain ⟨cs', hf, rfl⟩ := hy
    obtain ⟨e1, e2⟩ := flatL_spec hf
    exact .tup cs' us (by rw [e1, hl]) (fun j x u hx hu => by obtain ⟨z, hz, hzx⟩ := e2 j x hx; exact ih j z u hz hu x hzx)
  | fn f cs us hl _ ih => intro y hy; simp [SV.flatR] at hy
  | dead v => intro y hy; simp [SV.flatR] at hy

/-- Behind a call: the rows that came have names, or none; its value stands in the slot. -/
theorem RR.took (h : RR C β σ a w) {w' : World} {d keep : Nat} {r : Res} {e : Eff} {v : Value} {δ : Nat → Blk} {γ : Nat → Nat} {ok : Nat → Prop} (ha : After w w' ok 0 γ r v δ) (hok : (∀ b, ok b → okB C β σ.look w b) ∨ (r.v.scalar = true ∧ r.rows = []))
    (ht : took d keep r = some e) (hfresh : ∀ i, i < keep → σ.look (.loc d i) = none) : ∃ β', RR C β' (σ.insAll e.ins) a w' ∧ SLies w' (okB C β' (σ.insAll e.ins).look w') β' (σ.insAll e.ins).look e.v v := by
  have hfr : ∀ b, b < w.heap.size → w'.heap[b]? = w.heap[b]? := fun b hb => ha.frame b hb (by intro i hi; omega)
  have hsub : ∀ m, (∀ b, ok b → okB C β σ.look w b) → ∀ b, okAft ok w w' δ m b → okAft (okB C β σ.look w) w w' δ m b := fun m hs b hb => hb.imp (hs b) id
  simp only [Av.took] at ht
  by_cases hk : (keep == 0) = true
  · rw [hk] at ht
    simp only [cond_true, Option.map_eq_some_iff] at ht
    obtain ⟨y, hy, rfl⟩ := ht
    obtain ⟨β', _, h', hok', _⟩ := h.rows ha.size ha.quiet hfr d [] δ (by simp) (by simp) (by simp) (by simp)
    refine ⟨β', h', ?_⟩
    rcases hok with hs | ⟨hs, hr⟩
    · refine flat_lies (fun b hb => hok' b ?_) (fun i hi => hok' _ (.inr ⟨ha.new i hi, ?_, by simp⟩)) ha.rows ha.val y hy
      · rcases hb with hb | ⟨h1, h2, _⟩
        · exact .inl (hs b hb)
        · exact .inr ⟨h1, h2, by simp⟩
      · obtain ⟨⟨sz, xs⟩, hp⟩ : ∃ p, r.rows[i]? = some p := ⟨_, List.getElem?_eq_getElem hi⟩
        obtain ⟨arr, T, g1, _⟩ := ha.rows i sz xs hp
        exact (Array.getElem?_eq_some_iff.1 g1).1
    · have h0 := scalarS_lies (w' := w') (ok' := fun _ => False) (β' := resβ δ) (lk' := resLk r.rows) ha.val hs
      exact flat_lies (fun b hb => hb.elim) (fun i hi => by rw [hr] at hi; simp at hi) (fun i sz xs hp => by rw [hr] at hp; simp at hp) h0 y hy
  · simp only [Bool.not_eq_true] at hk
    rw [hk] at ht
    simp only [cond_false] at ht
    cases hle : decide (r.rows.length ≤ keep) with
    | false => rw [hle] at ht; cases ht
    | true =>
      rw [hle] at ht
      simp only [cond_true, Option.some.injEq] at ht
      subst ht
      have hle' : r.rows.length ≤ keep := by simpa using hle
      rcases hok with hs | ⟨hs, hr⟩
      · obtain ⟨β', hb, h', hok', hlk⟩ := h.rows ha.size ha.quiet hfr d r.rows δ ha.inj ha.new (fun i hi => hfresh i (by omega)) (fun i sz xs hp => by
          obtain ⟨arr, T, g1, g2, g3, g4, g5⟩ := ha.rows i sz xs hp
          exact ⟨arr, T, g1, g2, g3, g4, fun i j x y hx hy => by
            obtain ⟨u, hu, hL⟩ := g5 i j x y hx hy
            exact ⟨u, hu, hL.mono (fun b _ off u hu => hu) (hsub _ hs)⟩⟩)
        exact ⟨β', h', ren_lies (fun b hb => hok' b (hsub _ hs b hb)) hb hlk ha.val⟩
      · obtain ⟨β', _, h', hok', _⟩ := h.rows ha.size ha.quiet hfr d [] δ (by simp) (by simp) (by simp) (by simp)
        refine ⟨β', by rw [hr]; exact h', ?_⟩
        rw [hr]
        have h0 := scalarS_lies (w' := w') (ok' := fun _ => False) (β' := resβ δ) (lk' := resLk r.rows) ha.val hs
        exact ren_lies (rows := r.rows) (fun b hb => hb.elim) (fun i hi => by rw [hr] at hi; simp at hi) (fun i sz xs hp => by rw [hr] at hp; simp at hp) h0

end
end Go.Av
