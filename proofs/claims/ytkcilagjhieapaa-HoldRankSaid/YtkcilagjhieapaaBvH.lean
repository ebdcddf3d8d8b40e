/- Regions whose order is drawn: every order comes to the state that the order of the text comes to. -/
import Derived.Test.YtkcilagjhieapaaBvG
set_option linter.unusedVariables false
set_option linter.unusedSimpArgs false
namespace Go.Av

/-! ### the test -/

def AOp.tmps (op : AOp) : List Nat := op.opds.filterMap fun | .tmp t => some t | _ => none

def GOp.looks (g : GOp) : List Nat := (match g.g with | some (t, _) => [t] | none => []) ++ g.op.tmps

def maskOf (acc : List Nat) (o : Oper) : Nat := o.after.toList.foldl (fun m e => bif Region.binds .any e then m ||| (acc.getD e.on 0 ||| 1 <<< e.on) else m) 0

def masks (acc : List Nat) : List Oper → List Nat
  | [] => acc
  | o :: os => masks (acc ++ [maskOf acc o]) os

def freeLook (m j t : Nat) : Nat → List GOp → Bool
  | _, [] => true
  | i, g :: gs => (bif g.d == some t then decide (i < j) && m.testBit i else true) && freeLook m j t (i + 1) gs

def distinct1 : List GOp → Bool
  | [] => true
  | g :: gs => (match g.d with | none => true | some d => gs.all fun g' => g'.d != some d) && distinct1 gs

def GOp.nameOK (g : GOp) : Bool := match g.op with
  | .append kd _ _ _ _ => g.d == some kd
  | _ => true

def distinct (gs : List GOp) : Bool := distinct1 gs && gs.all GOp.nameOK

def drawAt (n : Nat) (ms : List Nat) (gs : List GOp) (ks : List Key) (j : Nat) (o : Oper) (g : GOp) : Bool :=
  o.after.toList.all (fun e => !Region.binds .any e || decide (e.on < j)) &&
  (g.op.keys (g.d.getD 0)).all (fun k => ks.contains k && g.d.isSome) &&
  g.looks.all (fun t => freeLook (ms.getD j 0) j t 0 gs) &&
  (!g.op.isB || (List.range n).all fun i => i == j || (bif decide (i < j) then (ms.getD j 0).testBit i else (ms.getD i 0).testBit j))

def drawsAt (n : Nat) (ms : List Nat) (gs : List GOp) (ks : List Key) : Nat → List Oper → List GOp → Bool
  | _, [], [] => true
  | j, o :: os, g :: gs' => drawAt n ms gs ks j o g && drawsAt n ms gs ks (j + 1) os gs'
  | _, _, _ => false

def drawOK (ops : List Oper) (gs : List GOp) (ks : List Key) : Bool :=
  distinct gs && ks.all (fun | .ext _ => false | _ => true) && drawsAt ops.length (masks [] ops) gs ks 0 ops gs

/-! ### what the test says -/

inductive Reach (ops : List Oper) : Nat → Nat → Prop
  | edge (j : Nat) (o : Oper) (e : Edge) (ho : ops[j]? = some o) (he : e ∈ o.after) (hb : Region.binds .any e = true) : Reach ops j e.on
  | far (j i : Nat) (o : Oper) (e : Edge) (ho : ops[j]? = some o) (he : e ∈ o.after) (hb : Region.binds .any e = true) (h : Reach ops e.on i) : Reach ops j i

theorem maskOf_spec {acc : List Nat} {o : Oper} {i : Nat} (h : (maskOf acc o).testBit i = true) : ∃ e ∈ o.after, Region.binds .any e = true ∧ (i = e.on ∨ (acc.getD e.on 0).testBit i = true) := by
  have gen : ∀ (l : List Edge) (m : Nat), (l.foldl (fun m e => bif Region.binds .any e then m ||| (acc.getD e.on 0 ||| 1 <<< e.on) else m) m).testBit i = true →
      m.testBit i = true ∨ ∃ e ∈ l, Region.binds .any e = true ∧ (i = e.on ∨ (acc.getD e.on 0).testBit i = true) := by
    intro l
    induction l with
    | nil => intro m h; exact .inl h
    | cons e l ih =>
      intro m h
      simp only [List.foldl_cons] at h
      rcases ih _ h with h1 | ⟨e', he', h2⟩
      · cases hb : Region.binds .any e with
        | false => rw [hb] at h1; exact .inl h1
        | true =>
          rw [hb, cond_true, Nat.testBit_or, Nat.testBit_or, Bool.or_eq_true, Bool.or_eq_true] at h1
          rcases h1 with h1 | h1 | h1
          · exact .inl h1
          · exact .inr ⟨e, by simp, hb, .inr h1⟩
          · refine .inr ⟨e, by simp, hb, .inl ?_⟩
            rw [Nat.one_shiftLeft, Nat.testBit_two_pow] at h1
            simpa using (of_decide_eq_true h1).symm
      · exact .inr ⟨e', by simp [he'], h2⟩
  rcases gen _ _ h with h | ⟨e, he, h⟩
  · simp at h
  · exact ⟨e, by simpa using he, h⟩

theorem masks_spec {ops : List Oper} : ∀ (post pre : List Oper) (acc : List Nat), ops = pre ++ post → acc.length = pre.length → (∀ j i, (acc.getD j 0).testBit i = true → Reach ops j i) →
    ∀ j i, ((masks acc post).getD j 0).testBit i = true → Reach ops j i
  | [], pre, acc, _, _, h => h
  | o :: os, pre, acc, hops, hl, h => by
    refine masks_spec os (pre ++ [o]) (acc ++ [maskOf acc o]) (by rw [hops]; simp) (by simp [hl]) (fun j i hb => ?_)
    rw [List.getD_eq_getElem?_getD, List.getElem?_append] at hb
    split at hb
    · exact h j i (by rw [List.getD_eq_getElem?_getD]; exact hb)
    · rename_i hge
      by_cases hj : j = acc.length
      · subst hj
        simp at hb
        obtain ⟨e, he, hbd, h1⟩ := maskOf_spec hb
        have ho : ops[acc.length]? = some o := by rw [hops, hl]; simp
        rcases h1 with rfl | h1
        · exact .edge _ o e ho he hbd
        · exact .far _ _ o e ho he hbd (h _ _ h1)
      · have : [maskOf acc o][j - acc.length]? = none := by
          apply List.getElem?_eq_none_iff.2
          simp; omega
        rw [this] at hb
        simp at hb

theorem freeLook_spec {m j t : Nat} : ∀ {gs : List GOp} {i0 : Nat}, freeLook m j t i0 gs = true → ∀ i g, gs[i]? = some g → g.d = some t → i0 + i < j ∧ m.testBit (i0 + i) = true
  | [], _, _, i, g, hg, _ => by simp at hg
  | g0 :: gs, i0, h, i, g, hg, hd => by
    simp only [freeLook, Bool.and_eq_true] at h
    cases i with
    | zero =>
      simp at hg; subst hg
      have h1 := h.1
      rw [hd] at h1
      simpa using h1
    | succ i =>
      have := freeLook_spec h.2 i g (by simpa using hg) hd
      rw [show i0 + (i + 1) = i0 + 1 + i by omega]
      exact this

theorem distinct1_spec : ∀ {gs : List GOp}, distinct1 gs = true → ∀ (i i' : Nat) (g g' : GOp) (d : Nat), gs[i]? = some g → gs[i']? = some g' → g.d = some d → g'.d = some d → i = i'
  | [], _, i, i', g, g', d, h1, _, _, _ => by simp at h1
  | g0 :: gs, h, i, i', g, g', d, h1, h2, h3, h4 => by
    simp only [distinct1, Bool.and_eq_true] at h
    have one : ∀ (q : GOp) (i : Nat), g0.d = some d → gs[i]? = some q → q.d = some d → False := fun q i hd hq hqd => by
      have := h.1
      rw [hd] at this
      simp only [List.all_eq_true] at this
      have := this q (List.mem_of_getElem? hq)
      simp [hqd] at this
    cases i with
    | zero =>
      cases i' with
      | zero => rfl
      | succ i' =>
        simp at h1 h2; subst h1
        exact (one g' i' h3 h2 h4).elim
    | succ i =>
      cases i' with
      | zero =>
        simp at h1 h2; subst h2
        exact (one g i h4 h1 h3).elim
      | succ i' =>
        simp at h1 h2
        rw [distinct1_spec h.2 i i' g g' d h1 h2 h3 h4]

theorem distinct_spec {gs : List GOp} (h : distinct gs = true) : ∀ (i i' : Nat) (g g' : GOp) (d : Nat), gs[i]? = some g → gs[i']? = some g' → g.d = some d → g'.d = some d → i = i' := by
  unfold distinct at h
  rw [Bool.and_eq_true] at h
  exact distinct1_spec h.1

theorem distinct_app {gs : List GOp} (h : distinct gs = true) : ∀ (i : Nat) (g : GOp) (kd sz b : Nat) (x y : Opd), gs[i]? = some g → g.op = .append kd sz b x y → g.d = some kd := by
  intro i g kd sz b x y hg hop
  unfold distinct at h
  rw [Bool.and_eq_true, List.all_eq_true] at h
  have := h.2 g (List.mem_of_getElem? hg)
  unfold GOp.nameOK at this
  rw [hop] at this
  simpa using this

structure DrawBase (ops : List Oper) (gs : List GOp) (ks : List Key) : Prop where
  len : ops.length = gs.length
  dist : ∀ (i i' : Nat) (g g' : GOp) (d : Nat), gs[i]? = some g → gs[i']? = some g' → g.d = some d → g'.d = some d → i = i'
  app : ∀ (i : Nat) (g : GOp) (kd sz b : Nat) (x y : Opd), gs[i]? = some g → g.op = .append kd sz b x y → g.d = some kd
  noext : ∀ k ∈ ks, ∀ i, k ≠ .ext i
  back : ∀ j o, ops[j]? = some o → ∀ e ∈ o.after, Region.binds .any e = true → e.on < j
  keys : ∀ (j : Nat) (g : GOp), gs[j]? = some g → ∀ k ∈ g.op.keys (g.d.getD 0), k ∈ ks ∧ ∃ d, g.d = some d
  looks : ∀ (j : Nat) (g : GOp), gs[j]? = some g → ∀ t ∈ g.looks, ∀ (i : Nat) (g' : GOp), gs[i]? = some g' → g'.d = some t → i < j ∧ Reach ops j i

structure DrawOK (ops : List Oper) (gs : List GOp) (ks : List Key) : Prop extends DrawBase ops gs ks where
  ordB : ∀ (j : Nat) (g : GOp), gs[j]? = some g → g.op.isB = true → ∀ i, i < ops.length → (i < j → Reach ops j i) ∧ (j < i → Reach ops i j)

theorem drawsAt_spec {n : Nat} {ms : List Nat} {gs : List GOp} {ks : List Key} : ∀ {os : List Oper} {gs' : List GOp} {j0 : Nat}, drawsAt n ms gs ks j0 os gs' = true →
    os.length = gs'.length ∧ ∀ (j : Nat) (o : Oper) (g : GOp), os[j]? = some o → gs'[j]? = some g → drawAt n ms gs ks (j0 + j) o g = true
  | [], [], _, _ => by simp
  | [], _ :: _, _, h => by simp [drawsAt] at h
  | _ :: _, [], _, h => by simp [drawsAt] at h
  | o :: os, g :: gs', j0, h => by
    simp only [drawsAt, Bool.and_eq_true] at h
    obtain ⟨e1, e2⟩ := drawsAt_spec h.2
    refine ⟨by simp [e1], fun j o' g' h1 h2 => ?_⟩
    cases j with
    | zero => simp at h1 h2; subst h1; subst h2; exact h.1
    | succ j =>
      rw [show j0 + (j + 1) = j0 + 1 + j by omega]
      exact e2 j o' g' (by simpa using h1) (by simpa using h2)

theorem drawOK_spec {ops : List Oper} {gs : List GOp} {ks : List Key} (h : drawOK ops gs ks = true) : DrawOK ops gs ks := by
  simp only [drawOK, Bool.and_eq_true] at h
  obtain ⟨⟨h1, h2⟩, h3⟩ := h
  obtain ⟨e1, e2⟩ := drawsAt_spec h3
  have hr : ∀ j i, ((masks [] ops).getD j 0).testBit i = true → Reach ops j i := masks_spec ops [] [] rfl rfl (by simp)
  have both : ∀ (j : Nat) (g : GOp), gs[j]? = some g → ∃ o, ops[j]? = some o ∧ drawAt ops.length (masks [] ops) gs ks j o g = true := fun j g hg => by
    have hlt := (List.getElem?_eq_some_iff.1 hg).1
    have ho : ops[j]? = some (ops[j]'(by omega)) := List.getElem?_eq_getElem (by omega)
    exact ⟨_, ho, by simpa using e2 j _ g ho hg⟩
  refine ⟨⟨e1, distinct_spec h1, distinct_app h1, ?_, ?_, ?_, ?_⟩, ?_⟩
  · intro k hk i e
    subst e
    have := List.all_eq_true.1 h2 _ hk
    simp at this
  · intro j o ho e he hb
    have hlt := (List.getElem?_eq_some_iff.1 ho).1
    have hg : gs[j]? = some (gs[j]'(by omega)) := List.getElem?_eq_getElem (by omega)
    have := e2 j o _ ho hg
    simp only [drawAt, Bool.and_eq_true, List.all_eq_true, Nat.zero_add] at this
    have := this.1.1.1 e (by simpa using he)
    simpa [hb] using this
  · intro j g hg k hk
    obtain ⟨o, ho, hd⟩ := both j g hg
    simp only [drawAt, Bool.and_eq_true, List.all_eq_true] at hd
    have := hd.1.1.2 k hk
    exact ⟨by simpa using this.1, Option.isSome_iff_exists.1 this.2⟩
  · intro j g hg t ht i g' hg' hd'
    obtain ⟨o, ho, hd⟩ := both j g hg
    simp only [drawAt, Bool.and_eq_true, List.all_eq_true] at hd
    have := freeLook_spec (hd.1.2 t ht) i g' hg' hd'
    simp only [Nat.zero_add] at this
    exact ⟨this.1, hr j i this.2⟩
  · intro j g hg hB i hi
    obtain ⟨o, ho, hd⟩ := both j g hg
    simp only [drawAt, Bool.and_eq_true] at hd
    have := hd.2
    rw [hB] at this
    simp only [Bool.not_true, Bool.false_or, List.all_eq_true, List.mem_range] at this
    have := this i hi
    refine ⟨fun hlt => hr j i ?_, fun hlt => hr i j ?_⟩
    · have hne : (i == j) = false := by simp; omega
      simpa [hne, hlt] using this
    · have hne : (i == j) = false := by simp; omega
      have hnl : ¬ i < j := by omega
      simpa [hne, hnl] using this

/-! ### new names -/

theorem freeze_some {σ : St} {k k' : Key} {o : HObj} (h : (σ.freeze k).look k' = some o) : ∃ o2, σ.look k' = some o2 := by
  unfold St.freeze at h
  split at h
  · rename_i x hk
    have e : lookH ((σ.hp.filter fun p => decide (p.1 ≠ k)).map fun p => (p.1, p.2.freeze k x)) k' = some o := h
    rw [lookH_freeze] at e
    split at e
    · cases e
    · simp only [Option.map_eq_some_iff] at e
      obtain ⟨o2, h2, _⟩ := e
      exact ⟨o2, h2⟩
  · exact ⟨o, h⟩

theorem freezeAll_some : ∀ (ks : List Key) {σ : St} {k' : Key} {o : HObj}, (σ.freezeAll ks).look k' = some o → ∃ o2, σ.look k' = some o2
  | [], _, _, o, h => ⟨o, h⟩
  | k :: ks, σ, k', o, h => by obtain ⟨o2, h2⟩ := freezeAll_some ks h; exact freeze_some h2

theorem over_look {σ : St} {k k' : Key} {o1 o : HObj} (h : (σ.over k o1).look k' = some o) : ∃ o2, σ.look k' = some o2 := by
  rw [St.look_over] at h
  split at h
  · rename_i e; subst e
    simp only [Option.map_eq_some_iff] at h
    obtain ⟨o2, h2, _⟩ := h
    exact ⟨o2, h2⟩
  · exact ⟨o, h⟩

theorem overAll_some {f : Key → Option Key} : ∀ {ks : List Key} {ext : List (Option HObj)} {σ σ' : St} {k : Key} {o : HObj}, overAll f σ ks ext = some σ' → σ'.look k = some o → ∃ o2, σ.look k = some o2
  | [], [], σ, σ', k, o, h, hk => by simp only [overAll, Option.some.injEq] at h; subst h; exact ⟨o, hk⟩
  | [], _ :: _, _, _, _, _, h, _ => by simp [overAll] at h
  | _ :: _, [], _, _, _, _, h, _ => by simp [overAll] at h
  | k1 :: ks, none :: r, σ, σ', k, o, h, hk => overAll_some (ks := ks) (ext := r) (by simpa only [overAll] using h) hk
  | k1 :: ks, some o1 :: r, σ, σ', k, o, h, hk => by
    obtain ⟨o2, h2⟩ := overAll_some (ks := ks) (ext := r) (by simpa only [overAll] using h) hk
    exact over_look h2

theorem bstep_new {cl : Callee} {σ σ' : St} {dst : Option Nat} {op : AOp} (hb : bstep cl σ dst op = some σ') {k : Key} {o : HObj} (hk : σ'.look k = some o) : (∃ o2, σ.look k = some o2) ∨ (∃ d i, dst = some d ∧ k = .loc d i) ∨ ∃ kd sz b x y, op = .append kd sz b x y ∧ k = .loc kd 0 := by
  cases op with
  | store n x y =>
    simp only [bstep] at hb
    split at hb
    · split at hb
      · split at hb
        · cases hb
        · cases hb
        · split at hb
          · simp only [Option.some.injEq] at hb; subst hb
            rw [St.look_put] at hk
            exact .inl (over_look hk)
          · cases hb
      · cases hb
    · split at hb
      · split at hb
        · split at hb
          · split at hb
            · simp only [Option.some.injEq] at hb; subst hb
              rw [St.look_put] at hk
              exact .inl (over_look hk)
            · cases hb
          · cases hb
        · cases hb
      · cases hb
    · cases hb
  | append kd sz bytes x y =>
    simp only [bstep] at hb
    split at hb
    · cases hb
    · rename_i d
      split at hb
      · cases hb
      · split at hb
        · split at hb
          · simp only [Option.some.injEq] at hb; subst hb
            rw [St.look_put, St.look_ins] at hk
            split at hk
            · rename_i e; exact .inr (.inr ⟨kd, sz, bytes, x, y, rfl, e.symm⟩)
            · exact .inl (kill_some hk)
          · cases hb
        · rename_i k1 hx
          split at hb
          · rename_i sz' xs hk1
            split at hb
            · simp only [Option.some.injEq] at hb; subst hb
              rw [St.look_put, St.look_ins] at hk
              split at hk
              · rename_i e; exact .inr (.inr ⟨kd, sz, bytes, x, y, rfl, e.symm⟩)
              · obtain ⟨o2, h2⟩ := kill_some hk
                exact .inl (kill_some h2)
            · cases hb
          · cases hb
        · cases hb
  | mset kk x k1 v =>
    simp only [bstep] at hb
    split at hb
    · split at hb
      · simp only [cond_eq_ite] at hb
        split at hb
        · simp only [Option.some.injEq] at hb; subst hb
          rw [St.look_put] at hk
          exact .inl (over_look hk)
        · cases hb
      · cases hb
    · cases hb
  | call keep m f args fz ln =>
    simp only [bstep] at hb
    split at hb
    · cases hb
    · rename_i d
      split at hb
      · cases hb
      · split at hb
        · cases hb
        · split at hb
          · cases hb
          · split at hb
            · cases hb
            · rename_i e htook
              split at hb
              · cases hb
              · rename_i σ2 hback
                simp only [Option.some.injEq] at hb; subst hb
                rw [St.look_put] at hk
                unfold St.insAll St.look at hk
                simp only [lookH_append] at hk
                cases hi : lookH e.ins k with
                | some o2 =>
                  obtain ⟨i, _, rfl⟩ := took_keys htook hi
                  exact .inr (.inl ⟨d, i, rfl, rfl⟩)
                | none =>
                  rw [hi] at hk
                  obtain ⟨o2, h2⟩ := overAll_some hback (k := k) (o := o) (by simpa [St.look] using hk)
                  obtain ⟨o3, h3⟩ := killAll_some _ h2
                  obtain ⟨o4, h4⟩ := killAll_some _ h3
                  exact .inl (freezeAll_some _ h4)
  | _ => cases hb

end Go.Av
