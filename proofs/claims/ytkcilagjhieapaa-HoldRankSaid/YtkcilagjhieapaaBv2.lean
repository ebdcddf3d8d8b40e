/- Names that are struck, and names that are made. -/
import Derived.Test.YtkcilagjhieapaaBv1
namespace Go.Av

theorem getS_map (f : SV → SV) (hf : f .dead = .dead) (l : List (Nat × SV)) (t : Nat) : getS (l.map fun p => (p.1, f p.2)) t = f (getS l t) := by
  induction l with
  | nil => simp [getS, hf]
  | cons p l ih =>
    obtain ⟨i, v⟩ := p
    simp only [List.map_cons, getS, ih]
    cases i == t <;> rfl

theorem lookH_kill (f : HObj → HObj) (k : Key) (l : List (Key × HObj)) (k' : Key) :
    lookH ((l.filter fun p => decide (p.1 ≠ k)).map fun p => (p.1, f p.2)) k' = if k' = k then none else (lookH l k').map f := by
  induction l with
  | nil => simp [lookH]
  | cons p l ih =>
    obtain ⟨i, v⟩ := p
    by_cases hi : i = k
    · subst hi
      simp only [List.filter_cons, ne_eq, not_true_eq_false, decide_false, Bool.false_eq_true, if_false, ih, lookH]
      by_cases hk : k' = i
      · simp [hk]
      · have : ¬ i = k' := fun e => hk e.symm
        simp [hk, this]
    · simp only [List.filter_cons, ne_eq, hi, not_false_eq_true, decide_true, if_true, List.map_cons, lookH, ih]
      by_cases hk : i = k'
      · subst hk; simp [hi]
      · simp [hk]

theorem SV.kill_dead (k : Key) : SV.kill k .dead = .dead := rfl

theorem St.get_kill (σ : St) (k : Key) (t : Nat) : (σ.kill k).get t = (σ.get t).kill k := getS_map (SV.kill k) rfl σ.sl t
theorem St.look_kill (σ : St) (k k' : Key) : (σ.kill k).look k' = if k' = k then none else (σ.look k').map (HObj.kill k) := lookH_kill (HObj.kill k) k σ.hp k'

theorem SV.kill_names (k : Key) (x : SV) : (x.kill k).names k = false := by
  unfold SV.kill
  cases h : x.names k <;> simp [h, SV.names]

theorem SV.kill_or (k : Key) (x : SV) : x.kill k = .dead ∨ (x.kill k = x ∧ x.names k = false) := by
  unfold SV.kill
  cases h : x.names k <;> simp

theorem HObj.kill_sim (k : Key) (o : HObj) : o.sim (o.kill k) := by
  cases o <;> simp [HObj.kill, HObj.sim]

section
variable {C : Ctx} {β : Key → Blk} {σ : St} {a : Act} {w : World}

theorem SLies.kill {ok ok' : Nat → Prop} (ho : ∀ b, ok b → ok' b) (k : Key) {x : SV} {v : Value} (h : SLies w ok β σ.look x v) : SLies w ok' β (σ.kill k).look (x.kill k) v := by
  rcases SV.kill_or k x with e | ⟨e, hn⟩
  · rw [e]; exact .dead v
  · rw [e]
    refine h.mono' (fun b _ off u hu => hu) ho (fun k' o hk' hl => ?_)
    have hne : k' ≠ k := fun e => by subst e; rw [hn] at hk'; cases hk'
    exact ⟨o.kill k, by rw [St.look_kill]; simp [hne, hl], o.kill_sim k, rfl⟩

theorem RR.kill (h : RR C β σ a w) (k : Key) : RR C β (σ.kill k) a w := by
  have hsome : ∀ k' o, (σ.kill k).look k' = some o → k' ≠ k ∧ ∃ o', σ.look k' = some o' ∧ o = o'.kill k := by
    intro k' o ho
    rw [St.look_kill] at ho
    by_cases e : k' = k
    · simp [e] at ho
    · simp only [e, if_false, Option.map_eq_some_iff] at ho
      obtain ⟨o', h1, h2⟩ := ho
      exact ⟨e, o', h1, h2.symm⟩
  have hok : ∀ b, okB C β σ.look w b → okB C β (σ.kill k).look w b := by
    intro b hb
    refine ⟨hb.1, fun k' o ho => ?_, hb.2.2⟩
    obtain ⟨_, o', h1, _⟩ := hsome k' o ho
    exact hb.2.1 k' o' h1
  have hfor : ∀ k' o, k' ≠ k → σ.look k' = some o → (σ.kill k).look k' = some (o.kill k) := fun k' o hne ho => by rw [St.look_kill, if_neg hne, ho]; rfl
  refine ⟨h.tsz, h.dfs, ?_, ?_, ?_, ?_, ?_, h.size, h.frame, h.quiet⟩
  · intro k1 k2 o1 o2 b h1 h2 e1 e2
    obtain ⟨_, o1', h1', _⟩ := hsome k1 o1 h1
    obtain ⟨_, o2', h2', _⟩ := hsome k2 o2 h2
    exact h.inj k1 k2 o1' o2' b h1' h2' e1 e2
  · intro k' o ho
    obtain ⟨hne, o', h1, rfl⟩ := hsome k' o ho
    have := h.objs k' o' h1
    cases o' with
    | box cs =>
      obtain ⟨b, arr, T, e0, e1, e2, e3, e4⟩ := this
      refine ⟨b, arr, T, e0, e1, by simpa using e2, e3, fun j x u hx hu => ?_⟩
      simp only [List.getElem?_map, Option.map_eq_some_iff] at hx
      obtain ⟨x', hx', rfl⟩ := hx
      exact (e4 j x' u hx' hu).kill hok k
    | row sz xs =>
      rcases this with e | ⟨b, arr, T, e0, e1, e2, e3, e4, e5⟩
      · exact .inl e
      · refine .inr ⟨b, arr, T, e0, e1, e2, e3, e4, fun i j x y hx hy => ?_⟩
        obtain ⟨u, hu, hl⟩ := e5 i j x y hx hy
        exact ⟨u, hu, hl.mono (fun b _ off u hu => hu) hok⟩
    | map kk es =>
      obtain ⟨b, ents, clock, e0, e1, e2⟩ := this
      exact ⟨b, ents, clock, e0, e1, e2.mono (fun b _ off u hu => hu) hok⟩
  · intro k' o b ho hb
    obtain ⟨_, o', h1, _⟩ := hsome k' o ho
    exact h.lo k' o' b h1 hb
  · intro i o ho
    obtain ⟨_, o', h1, rfl⟩ := hsome _ o ho
    obtain ⟨o0, g1, g2, g3⟩ := h.ext2 i o' h1
    exact ⟨o0, g1, HObj.sim_trans g2 (HObj.kill_sim k _), g3⟩
  · intro t
    rw [St.get_kill]
    exact (h.slots t).kill hok k

theorem RR.killAll (ks : List Key) : ∀ {σ : St}, RR C β σ a w → RR C β (σ.killAll ks) a w := by
  induction ks with
  | nil => intro σ h; exact h
  | cons k ks ih => intro σ h; exact ih (h.kill k)

/-- A name that is not there is in no live value. -/
theorem look_killed (σ : St) (k : Key) : (σ.kill k).look k = none := by rw [St.look_kill]; simp

theorem look_killAll_none (ks : List Key) : ∀ (σ : St) (k : Key), σ.look k = none → (σ.killAll ks).look k = none := by
  induction ks with
  | nil => intro σ k h; exact h
  | cons k' ks ih => intro σ k h; exact ih _ k (by rw [St.look_kill]; split <;> simp [h])

theorem look_killAll (ks : List Key) : ∀ (σ : St) (k : Key), k ∈ ks → (σ.killAll ks).look k = none := by
  induction ks with
  | nil => intro σ k h; simp at h
  | cons k' ks ih =>
    intro σ k h
    by_cases e : k ∈ ks
    · exact ih _ k e
    · simp [e] at h; subst h; exact look_killAll_none ks _ _ (look_killed σ k)

/-! ### a new block -/

theorem lookH_append (l l' : List (Key × HObj)) (k : Key) : lookH (l ++ l') k = (lookH l k).or (lookH l' k) := by
  induction l with
  | nil => simp [lookH]
  | cons p l ih =>
    obtain ⟨i, v⟩ := p
    simp only [List.cons_append, lookH, ih]
    split <;> simp

theorem St.look_ins (σ : St) (k : Key) (o : HObj) (k' : Key) : (σ.insAll [(k, o)]).look k' = if k = k' then some o else σ.look k' := by
  simp [St.insAll, St.look, lookH]

@[simp] theorem St.get_insAll (σ : St) (l : List (Key × HObj)) (t : Nat) : (σ.insAll l).get t = σ.get t := rfl

theorem cell_push (w : World) (o : Obj) {p : Addr} (h : p.block < w.heap.size) : (w.alloc o).cell? p = w.cell? p := by
  simp only [World.cell?, heap_alloc_old w o p.block h]

theorem RR.keeps_alloc (o : Obj) : Keeps (okB C β σ.look w) w (w.alloc o) := by
  intro b hb off u hu
  rw [cell_push w o (p := ⟨b, off, none⟩) hb.1]
  exact hu

/-- A block is laid, under a name that was not there. -/
theorem RR.new (h : RR C β σ a w) (k : Key) (hk : ∀ i, k ≠ .ext i) (hn : σ.look k = none) (o : HObj) (c : Nat) (ob : Obj)
    (hobj : ∀ β' : Key → Blk, (∀ k', k' ≠ k → β' k' = β k') → β' k = ⟨some w.heap.size, c⟩ → (∀ b, okB C β σ.look w b → okB C β' (σ.insAll [(k, o)]).look (w.alloc ob) b) → HLies (w.alloc ob) (okB C β' (σ.insAll [(k, o)]).look (w.alloc ob)) β' (σ.insAll [(k, o)]).look o ⟨some w.heap.size, c⟩) (hq : Quiet w (w.alloc ob) := by exact Quiet.alloc _ _) :
    ∃ β', (∀ k', k' ≠ k → β' k' = β k') ∧ β' k = ⟨some w.heap.size, c⟩ ∧ RR C β' (σ.insAll [(k, o)]) a (w.alloc ob) ∧
      (∀ b, okB C β σ.look w b → okB C β' (σ.insAll [(k, o)]).look (w.alloc ob) b) ∧ ∀ k' o', σ.look k' = some o' → (σ.insAll [(k, o)]).look k' = some o' := by
  refine ⟨fun k' => if k' = k then ⟨some w.heap.size, c⟩ else β k', fun k' hne => by simp [hne], by simp, ?_⟩
  generalize hβ : (fun k' => if k' = k then (⟨some w.heap.size, c⟩ : Blk) else β k') = β'
  have b1 : ∀ k', k' ≠ k → β' k' = β k' := fun k' hne => by rw [← hβ]; simp [hne]
  have b2 : β' k = ⟨some w.heap.size, c⟩ := by rw [← hβ]; simp
  have hl : ∀ k', k' ≠ k → (σ.insAll [(k, o)]).look k' = σ.look k' := fun k' hne => by rw [St.look_ins, if_neg (fun e => hne (Eq.symm e))]
  have hlk : (σ.insAll [(k, o)]).look k = some o := by rw [St.look_ins]; simp
  have hkeep : ∀ k' o', σ.look k' = some o' → (σ.insAll [(k, o)]).look k' = some o' := fun k' o' h' => by
    rw [hl k' (fun e => by subst e; rw [hn] at h'; cases h')]; exact h'
  have hne : ∀ k' o', σ.look k' = some o' → k' ≠ k := fun k' o' h' e => by subst e; rw [hn] at h'; cases h'
  have hok : ∀ b, okB C β σ.look w b → okB C β' (σ.insAll [(k, o)]).look (w.alloc ob) b := by
    intro b hb
    refine ⟨by have := hb.1; rw [World.size_alloc]; omega, fun k' o' h' => ?_, hb.2.2⟩
    by_cases e : k' = k
    · subst e; rw [b2]; exact fun e => by have := hb.1; simp at e; omega
    · rw [hl k' e] at h'; rw [b1 k' e]; exact hb.2.1 k' o' h'
  refine ⟨?_, hok, hkeep⟩
  refine ⟨h.tsz, h.dfs, ?_, ?_, ?_, ?_, ?_, ?_, ?_, h.quiet.trans hq⟩
  · intro k1 k2 o1 o2 b h1 h2 e1 e2
    by_cases q1 : k1 = k
    · by_cases q2 : k2 = k
      · rw [q1, q2]
      · rw [hl k2 q2] at h2; rw [q1, b2] at e1; rw [b1 k2 q2] at e2; have := h.blk_lt h2 e2; simp at e1; omega
    · by_cases q2 : k2 = k
      · rw [hl k1 q1] at h1; rw [q2, b2] at e2; rw [b1 k1 q1] at e1; have := h.blk_lt h1 e1; simp at e2; omega
      · rw [hl k1 q1] at h1; rw [hl k2 q2] at h2; rw [b1 k1 q1] at e1; rw [b1 k2 q2] at e2; exact h.inj k1 k2 o1 o2 b h1 h2 e1 e2
  · intro k' o' h'
    by_cases e : k' = k
    · subst e; rw [hlk] at h'; cases h'; rw [b2]; exact hobj β' b1 b2 hok
    · rw [hl k' e] at h'
      exact (h.objs k' o' h').mono (RR.keeps_alloc ob) hok (b1 k' e) (fun b hb => heap_alloc_old w ob _ (h.blk_lt h' hb)) (fun k2 o2 _ h2 => ⟨o2, hkeep k2 o2 h2, o2.sim_refl, b1 k2 (hne k2 o2 h2)⟩)
  · intro k' o' b h' hx
    by_cases e : k' = k
    · subst e; rw [b2] at hx; simp at hx; subst hx; exact .inl h.size
    · rw [hl k' e] at h'; rw [b1 k' e] at hx; exact h.lo k' o' b h' hx
  · intro i o' h'
    have e : Key.ext i ≠ k := fun e => hk i e.symm
    rw [hl _ e] at h'; rw [b1 _ e]; exact h.ext2 i o' h'
  · intro t
    exact (h.slots t).mono (RR.keeps_alloc ob) hok (fun k2 o2 h2 => ⟨o2, hkeep k2 o2 h2, o2.sim_refl, b1 k2 (hne k2 o2 h2)⟩)
  · have := h.size; rw [World.size_alloc]; omega
  · intro b hb hx
    have := h.frame b hb hx
    have hs := h.size
    rw [heap_alloc_old w ob b (by omega)]
    exact this

end

end Go.Av
