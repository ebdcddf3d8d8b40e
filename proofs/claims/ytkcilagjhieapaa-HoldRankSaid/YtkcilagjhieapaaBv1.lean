/- What abstract values stand for in the machine's memory. -/
import Derived.Test.YtkcilagjhieapaaBv0
import Derived.Laws.AppendOwn
namespace Go.Av

/-- 'v', in the memory of w, is x; all memory that it leads to lies in blocks that are 'ok'. -/
inductive Lies (w : World) (ok : Nat → Prop) : PV → Value → Prop
  | int (k : IntKind) (n : Int) : Lies w ok (.int k n) (.int k n)
  | bool (b : Bool) : Lies w ok (.bool b) (.bool b)
  | str (s : List UInt8) : Lies w ok (.str s) (.string ⟨s.toArray⟩)
  | fn (f : FuncId) : Lies w ok (.fn f) (.func (.func f) #[] #[])
  | nilFn : Lies w ok .nilFn .nilFunc
  | yld (l : Nat) : Lies w ok (.yld l) (.func (.yield l) #[] #[])
  | nilI : Lies w ok .nilI .nilIface
  | iface (t : TypeId) (x : PV) (v : Value) (h : Lies w ok x v) : Lies w ok (.iface t x) (.iface t v)
  | agg (cs : List PV) (us : List Value) (hl : cs.length = us.length) (h1 : ∀ x ∈ cs, x.one = true)
      (h : ∀ (j : Nat) (x : PV) (u : Value), cs[j]? = some x → us[j]? = some u → Lies w ok x u) : Lies w ok (.agg cs) (.agg us.toArray)
  | slice (xs : List PV) (a : Option Addr) (n c sz : Nat) (us : Nat → Nat → Value) (hn : n = xs.length) (hc : n ≤ c)
      (hsz : ∀ x ∈ xs, x.cells.length = sz) (h1 : ∀ x ∈ xs, ∀ y ∈ x.cells, y.one = true)
      (hat : ∀ i j, i < n → j < sz → ∃ b : Addr, a = some b ∧ b.spot = none ∧ ok b.block ∧ w.cell? ⟨b.block, b.off + i * sz + j, none⟩ = some (us i j))
      (hp : 0 < n → ∃ b : Addr, a = some b ∧ b.spot = none)
      (h : ∀ (i j : Nat) (x y : PV), xs[i]? = some x → x.cells[j]? = some y → Lies w ok y (us i j)) : Lies w ok (.slice xs) (.slice a n c)

/-- What lies in the blocks of p in w lies there in w', too. -/
def Keeps (p : Nat → Prop) (w w' : World) : Prop := ∀ b, p b → ∀ off u, w.cell? ⟨b, off, none⟩ = some u → w'.cell? ⟨b, off, none⟩ = some u

theorem Lies.mono {w w' : World} {ok ok' : Nat → Prop} (hk : Keeps ok w w') (ho : ∀ b, ok b → ok' b) {x : PV} {v : Value} (h : Lies w ok x v) : Lies w' ok' x v := by
  induction h with
  | int k n => exact .int k n
  | bool b => exact .bool b
  | str s => exact .str s
  | fn f => exact .fn f
  | nilFn => exact .nilFn
  | yld l => exact .yld l
  | nilI => exact .nilI
  | iface t x v _ ih => exact .iface t x v ih
  | agg cs us hl h1 _ ih => exact .agg cs us hl h1 ih
  | slice xs a n c sz us hn hc hsz h1 hat hp _ ih =>
    refine .slice xs a n c sz us hn hc hsz h1 (fun i j hi hj => ?_) hp ih
    obtain ⟨b, hb, hs, hob, hcell⟩ := hat i j hi hj
    exact ⟨b, hb, hs, ho _ hob, hk _ hob _ _ hcell⟩

/-- A value whose parts may lie in one cell each. -/
def PV.fine (x : PV) : Prop := ∀ y ∈ x.cells, y.one = true

theorem Lies.fine {w : World} {ok : Nat → Prop} {x : PV} {v : Value} (h : Lies w ok x v) : x.fine := by
  cases h with
  | agg cs us hl h1 _ => exact h1
  | _ => intro y hy; simp [PV.cells] at hy; subst hy; rfl

/-- Where a name's memory lies: the block (none: a row without memory); of a row: how many elements it can bear. -/
structure Blk where
  b : Option Nat
  c : Nat

/-- 'v' is what a slot says. -/
inductive SLies (w : World) (ok : Nat → Prop) (β : Key → Blk) (lk : Key → Option HObj) : SV → Value → Prop
  | pv (x : PV) (v : Value) (h : Lies w ok x v) : SLies w ok β lk (.pv x) v
  | nils (ad : Option Addr) : SLies w ok β lk .nils (.slice ad 0 0)
  | ptr (k : Key) (off : Nat) (cs : List SV) (b : Nat) (hk : lk k = some (.box cs)) (hb : (β k).b = some b) : SLies w ok β lk (.ptr k off) (.pointer (some ⟨b, off, none⟩))
  | own (k : Key) (sz : Nat) (xs : List PV) (b : Nat) (hk : lk k = some (.row sz xs)) (hb : (β k).b = some b) : SLies w ok β lk (.own k) (.slice (some ⟨b, 0, none⟩) xs.length (β k).c)
  | ownN (k : Key) (sz : Nat) (ad : Option Addr) (hk : lk k = some (.row sz [])) (hb : (β k).b = none) : SLies w ok β lk (.own k) (.slice ad 0 0)
  | mp (k : Key) (kk : KK) (es : List (PV × PV)) (b : Nat) (hk : lk k = some (.map kk es)) (hb : (β k).b = some b) : SLies w ok β lk (.mp k) (.map (some b))
  | iown (k : Key) (i off sz : Nat) (xs : List PV) (b : Nat) (hk : lk k = some (.row sz xs)) (hb : (β k).b = some b) (hi : i < xs.length) : SLies w ok β lk (.iown k i off) (.pointer (some ⟨b, i * sz + off, none⟩))
  | ipv (x : PV) (off : Nat) (b o : Nat) (us : Nat → Value) (hb : ok b) (h1 : x.fine) (hat : ∀ j, j < x.cells.length → w.cell? ⟨b, o + j, none⟩ = some (us j))
      (h : ∀ (j : Nat) (y : PV), x.cells[j]? = some y → Lies w ok y (us j)) : SLies w ok β lk (.ipv x off) (.pointer (some ⟨b, o + off, none⟩))
  | agg (cs : List SV) (us : List Value) (hl : cs.length = us.length)
      (h : ∀ (j : Nat) (x : SV) (u : Value), cs[j]? = some x → us[j]? = some u → SLies w ok β lk x u)
      (h1 : ∀ u ∈ us, u.oneCell' = true) : SLies w ok β lk (.agg cs) (.agg us.toArray)
  | tup (cs : List SV) (us : List Value) (hl : cs.length = us.length)
      (h : ∀ (j : Nat) (x : SV) (u : Value), cs[j]? = some x → us[j]? = some u → SLies w ok β lk x u) : SLies w ok β lk (.tup cs) (.tuple us.toArray)
  | fn (f : FuncId) (cs : List SV) (us : List Value) (hl : cs.length = us.length)
      (h : ∀ (j : Nat) (x : SV) (u : Value), cs[j]? = some x → us[j]? = some u → SLies w ok β lk x u) : SLies w ok β lk (.fn f cs) (.func (.func f) #[] us.toArray)
  | dead (v : Value) : SLies w ok β lk .dead v

/-- Entries of a map. -/
def EntsLie (w : World) (ok : Nat → Prop) (kk : KK) (es : List (PV × PV)) (ents : List MapEntry) : Prop :=
  es.length = ents.length ∧ ∀ (j : Nat) (e : PV × PV) (u : MapEntry), es[j]? = some e → ents[j]? = some u → e.1.isKK kk = true ∧ Lies w ok e.1 u.key ∧ Lies w ok e.2 u.val

/-- What lies under a name. 'B': the block, and how many elements it can bear. -/
def HLies (w : World) (ok : Nat → Prop) (β : Key → Blk) (lk : Key → Option HObj) : HObj → Blk → Prop
  | .box cs, B => ∃ (b : Nat) (arr : Array Value) (T : TypeId), B.b = some b ∧ w.heap[b]? = some (.cells arr T (0, 0)) ∧ arr.size = cs.length ∧
      (∀ u ∈ arr, u.oneCell' = true) ∧
      ∀ (j : Nat) (x : SV) (u : Value), cs[j]? = some x → arr[j]? = some u → SLies w ok β lk x u
  | .row sz xs, B => (B.b = none ∧ xs = [] ∧ B.c = 0) ∨ ∃ (b : Nat) (arr : Array Value) (T : TypeId), B.b = some b ∧ w.heap[b]? = some (.cells arr T (0, 0)) ∧ xs.length ≤ B.c ∧ arr.size = B.c * sz ∧
      (∀ x ∈ xs, x.cells.length = sz ∧ x.fine) ∧
      ∀ (i j : Nat) (x y : PV), xs[i]? = some x → x.cells[j]? = some y → ∃ u, arr[i * sz + j]? = some u ∧ Lies w ok y u
  | .map kk es, B => ∃ (b : Nat) (ents : Array MapEntry) (clock : Nat), B.b = some b ∧ w.heap[b]? = some (.map ents clock) ∧ EntsLie w ok kk es ents.toList

/-- Objects of one shape. -/
def HObj.sim : HObj → HObj → Prop
  | .box _, .box _ => True
  | .row sz xs, .row sz' xs' => sz = sz' ∧ xs.length = xs'.length
  | .map _ _, .map _ _ => True
  | _, _ => False

theorem HObj.sim_refl (o : HObj) : o.sim o := by cases o <;> simp [HObj.sim]
theorem HObj.sim_trans {a b c : HObj} (h1 : a.sim b) (h2 : b.sim c) : a.sim c := by
  cases a <;> cases b <;> simp only [HObj.sim] at h1 <;> cases c <;> simp only [HObj.sim] at h2 ⊢
  exact ⟨h1.1.trans h2.1, h1.2.trans h2.2⟩
theorem HObj.nm_sim (f : Key → Option Key) (o : HObj) : o.sim (o.nm f) := by cases o <;> simp [HObj.nm, HObj.sim]

theorem sim_box {o : HObj} {cs : List SV} (h : (HObj.box cs).sim o) : ∃ cs', o = .box cs' := by cases o <;> simp [HObj.sim] at h; exact ⟨_, rfl⟩
theorem sim_row {o : HObj} {sz : Nat} {xs : List PV} (h : (HObj.row sz xs).sim o) : ∃ xs', o = .row sz xs' ∧ xs.length = xs'.length := by
  cases o <;> simp [HObj.sim] at h
  obtain ⟨rfl, h⟩ := h
  exact ⟨_, rfl, h⟩
theorem sim_map {o : HObj} {kk : KK} {es : List (PV × PV)} (h : (HObj.map kk es).sim o) : ∃ kk' es', o = .map kk' es' := by cases o <;> simp [HObj.sim] at h; exact ⟨_, _, rfl⟩

theorem names_mem {k : Key} {cs : List SV} {x : SV} {j : Nat} (h : cs[j]? = some x) (hx : x.names k = true) : SV.names.namesL k cs = true := by
  induction cs generalizing j with
  | nil => simp at h
  | cons c cs ih =>
    cases j with
    | zero => simp at h; subst h; simp [SV.names.namesL, hx]
    | succ j => simp at h; simp [SV.names.namesL, ih h]

theorem nmL_spec (f : Key → Option Key) : ∀ (cs : List SV), (SV.nm.nmL f cs).length = cs.length ∧ ∀ (j : Nat) (x : SV), (SV.nm.nmL f cs)[j]? = some x → ∃ y, cs[j]? = some y ∧ x = y.nm f
  | [] => by simp [SV.nm.nmL]
  | c :: cs => by
    obtain ⟨h1, h2⟩ := nmL_spec f cs
    refine ⟨by simp [SV.nm.nmL, h1], fun j x hx => ?_⟩
    cases j with
    | zero => simp [SV.nm.nmL] at hx; exact ⟨c, rfl, hx.symm⟩
    | succ j => simp [SV.nm.nmL] at hx; simpa using h2 j x hx

/-- Values in another memory, under other names. -/
theorem SLies.nm' {w w' : World} {ok ok' : Nat → Prop} {β β' : Key → Blk} {lk lk' : Key → Option HObj} (f : Key → Option Key) (hk : Keeps ok w w') (ho : ∀ b, ok b → ok' b)
    {x : SV} {v : Value} (h : SLies w ok β lk x v) (hb : ∀ k o k', x.names k = true → lk k = some o → f k = some k' → ∃ o', lk' k' = some o' ∧ o.sim o' ∧ β' k' = β k) : SLies w' ok' β' lk' (x.nm f) v := by
  induction h with
  | pv x v h => exact .pv x v (h.mono hk ho)
  | nils => exact .nils _
  | ptr k off cs b h hb0 =>
    simp only [SV.nm]
    cases hf : f k with
    | none => exact .dead _
    | some k' =>
      obtain ⟨o', h1, h2, h3⟩ := hb k _ k' (by simp [SV.names]) h hf
      obtain ⟨cs', rfl⟩ := sim_box h2
      exact .ptr k' off cs' b h1 (by rw [h3, hb0])
  | own k sz xs b h hb0 =>
    simp only [SV.nm]
    cases hf : f k with
    | none => exact .dead _
    | some k' =>
      obtain ⟨o', h1, h2, h3⟩ := hb k _ k' (by simp [SV.names]) h hf
      obtain ⟨xs', rfl, h4⟩ := sim_row h2
      rw [h4, ← h3]
      exact .own k' sz xs' b h1 (by rw [h3, hb0])
  | ownN k sz ad h hb0 =>
    simp only [SV.nm]
    cases hf : f k with
    | none => exact .dead _
    | some k' =>
      obtain ⟨o', h1, h2, h3⟩ := hb k _ k' (by simp [SV.names]) h hf
      obtain ⟨xs', rfl, h4⟩ := sim_row h2
      obtain rfl : xs' = [] := List.eq_nil_of_length_eq_zero (by simpa using h4.symm)
      exact .ownN k' sz ad h1 (by rw [h3, hb0])
  | mp k kk es b h hb0 =>
    simp only [SV.nm]
    cases hf : f k with
    | none => exact .dead _
    | some k' =>
      obtain ⟨o', h1, h2, h3⟩ := hb k _ k' (by simp [SV.names]) h hf
      obtain ⟨kk', es', rfl⟩ := sim_map h2
      exact .mp k' kk' es' b h1 (by rw [h3, hb0])
  | iown k i off sz xs b h hb0 hi =>
    simp only [SV.nm]
    cases hf : f k with
    | none => exact .dead _
    | some k' =>
      obtain ⟨o', h1, h2, h3⟩ := hb k _ k' (by simp [SV.names]) h hf
      obtain ⟨xs', rfl, h4⟩ := sim_row h2
      exact .iown k' i off sz xs' b h1 (by rw [h3, hb0]) (by omega)
  | ipv x off b o us hob h1 hat h => exact .ipv x off b o us (ho _ hob) h1 (fun j hj => hk _ hob _ _ (hat j hj)) (fun j y hy => (h j y hy).mono hk ho)
  | agg cs us hl _ h1 ih =>
    obtain ⟨e1, e2⟩ := nmL_spec f cs
    exact .agg _ us (by rw [e1, hl]) (fun j x u hx hu => by obtain ⟨y, hy, rfl⟩ := e2 j x hx; exact ih j y u hy hu (fun k o k' hn => hb k o k' (by simpa [SV.names] using names_mem hy hn))) h1
  | tup cs us hl _ ih =>
    obtain ⟨e1, e2⟩ := nmL_spec f cs
    exact .tup _ us (by rw [e1, hl]) (fun j x u hx hu => by obtain ⟨y, hy, rfl⟩ := e2 j x hx; exact ih j y u hy hu (fun k o k' hn => hb k o k' (by simpa [SV.names] using names_mem hy hn)))
  | fn g cs us hl _ ih =>
    obtain ⟨e1, e2⟩ := nmL_spec f cs
    exact .fn g _ us (by rw [e1, hl]) (fun j x u hx hu => by obtain ⟨y, hy, rfl⟩ := e2 j x hx; exact ih j y u hy hu (fun k o k' hn => hb k o k' (by simpa [SV.names] using names_mem hy hn)))
  | dead v => exact .dead v

mutual
theorem SV.nm_id : ∀ (x : SV), x.nm some = x
  | .pv _ | .nils | .ptr _ _ | .own _ | .mp _ | .iown _ _ _ | .ipv _ _ | .dead => rfl
  | .agg cs => by simp only [SV.nm, SV.nmL_id cs]
  | .tup cs => by simp only [SV.nm, SV.nmL_id cs]
  | .fn g cs => by simp only [SV.nm, SV.nmL_id cs]
theorem SV.nmL_id : ∀ (cs : List SV), SV.nm.nmL some cs = cs
  | [] => rfl
  | c :: cs => by simp only [SV.nm.nmL, SV.nm_id c, SV.nmL_id cs]
end

theorem SLies.mono' {w w' : World} {ok ok' : Nat → Prop} {β β' : Key → Blk} {lk lk' : Key → Option HObj} (hk : Keeps ok w w') (ho : ∀ b, ok b → ok' b)
    {x : SV} {v : Value} (h : SLies w ok β lk x v) (hb : ∀ k o, x.names k = true → lk k = some o → ∃ o', lk' k = some o' ∧ o.sim o' ∧ β' k = β k) : SLies w' ok' β' lk' x v := by
  have := h.nm' (lk' := lk') (β' := β') some hk ho (fun k o k' hn hl e => by cases e; exact hb k o hn hl)
  rwa [SV.nm_id] at this

theorem SLies.mono {w w' : World} {ok ok' : Nat → Prop} {β β' : Key → Blk} {lk lk' : Key → Option HObj} (hk : Keeps ok w w') (ho : ∀ b, ok b → ok' b)
    (hb : ∀ k o, lk k = some o → ∃ o', lk' k = some o' ∧ o.sim o' ∧ β' k = β k) {x : SV} {v : Value} (h : SLies w ok β lk x v) : SLies w' ok' β' lk' x v :=
  h.mono' hk ho (fun k o _ => hb k o)

/-- A live value names only what is there. -/
theorem SLies.there {w : World} {ok : Nat → Prop} {β : Key → Blk} {lk : Key → Option HObj} {x : SV} {v : Value} (h : SLies w ok β lk x v) {k : Key} (hn : x.names k = true) : ∃ o, lk k = some o := by
  induction h with
  | pv x v h => simp [SV.names] at hn
  | nils => simp [SV.names] at hn
  | ptr k' off cs b h => simp [SV.names] at hn; subst hn; exact ⟨_, h⟩
  | own k' sz xs b h => simp [SV.names] at hn; subst hn; exact ⟨_, h⟩
  | ownN k' sz ad h => simp [SV.names] at hn; subst hn; exact ⟨_, h⟩
  | mp k' kk es b h => simp [SV.names] at hn; subst hn; exact ⟨_, h⟩
  | iown k' i off sz xs b h hi => simp [SV.names] at hn; subst hn; exact ⟨_, h⟩
  | ipv x off b o us hob h1 hat h => simp [SV.names] at hn
  | agg cs us hl _ h1 ih => obtain ⟨j, x, hx, hk⟩ := names_ex (by simpa [SV.names] using hn); exact ih j x us[j]! hx (by rw [getElem!_pos us j (by rw [← hl]; exact (List.getElem?_eq_some_iff.1 hx).1)]; simp [← hl, (List.getElem?_eq_some_iff.1 hx).1]) hk
  | tup cs us hl _ ih => obtain ⟨j, x, hx, hk⟩ := names_ex (by simpa [SV.names] using hn); exact ih j x us[j]! hx (by rw [getElem!_pos us j (by rw [← hl]; exact (List.getElem?_eq_some_iff.1 hx).1)]; simp [← hl, (List.getElem?_eq_some_iff.1 hx).1]) hk
  | fn f cs us hl _ ih => obtain ⟨j, x, hx, hk⟩ := names_ex (by simpa [SV.names] using hn); exact ih j x us[j]! hx (by rw [getElem!_pos us j (by rw [← hl]; exact (List.getElem?_eq_some_iff.1 hx).1)]; simp [← hl, (List.getElem?_eq_some_iff.1 hx).1]) hk
  | dead v => simp [SV.names] at hn
where
  names_ex {k : Key} {cs : List SV} (h : SV.names.namesL k cs = true) : ∃ (j : Nat) (x : SV), cs[j]? = some x ∧ x.names k = true := by
    induction cs with
    | nil => simp [SV.names.namesL] at h
    | cons c cs ih =>
      simp only [SV.names.namesL, Bool.or_eq_true] at h
      rcases h with h | h
      · exact ⟨0, c, by simp, h⟩
      · obtain ⟨j, x, hx, hk⟩ := ih h; exact ⟨j + 1, x, by simpa using hx, hk⟩

/-- What stays as it is while a call goes on. 'ext': what its caller lends, in the blocks γ; 'ok': what else it may reach. -/
structure Ctx where
  w0 : World
  ext : List HObj
  γ : Nat → Blk
  nt : Nat
  ok : Nat → Prop
  dfs : List Deferred

/-- Blocks of the caller's that the call may reach, or make its own. -/
def Ctx.free (C : Ctx) (b : Nat) : Prop := C.ok b ∨ ∃ i, i < C.ext.length ∧ (C.γ i).b = some b
def Ctx.lent (C : Ctx) (b : Nat) : Prop := ∃ i, i < C.ext.length ∧ (C.γ i).b = some b

/-- The blocks that pure values may lead to. -/
def okB (C : Ctx) (β : Key → Blk) (lk : Key → Option HObj) (w : World) (b : Nat) : Prop := b < w.heap.size ∧ (∀ k o, lk k = some o → (β k).b ≠ some b) ∧ (b < C.w0.heap.size → C.free b)

/-- What is not memory is as it was. -/
structure Quiet (w w' : World) : Prop where
  os : w'.os = w.os
  tape : w'.tape = w.tape
  out : w'.output = w.output

theorem Quiet.refl (w : World) : Quiet w w := ⟨rfl, rfl, rfl⟩
theorem Quiet.trans {w w' w'' : World} (h : Quiet w w') (h' : Quiet w' w'') : Quiet w w'' := ⟨h'.os.trans h.os, h'.tape.trans h.tape, h'.out.trans h.out⟩
theorem Quiet.drawn (w : World) (n : Nat) : Quiet w { w with drawn := n } := ⟨rfl, rfl, rfl⟩
theorem Quiet.alloc (w : World) (ob : Obj) : Quiet w (w.alloc ob) := ⟨rfl, rfl, rfl⟩
theorem Quiet.setRow (w : World) (g : Nat) (cs : Array Value) : Quiet w (w.setRow g cs) := ⟨rfl, rfl, rfl⟩

/-- The machine's state is what the abstract one says. -/
structure RR (C : Ctx) (β : Key → Blk) (σ : St) (a : Act) (w : World) : Prop where
  tsz : a.tmps.size = C.nt
  dfs : a.defers = C.dfs
  inj : ∀ k k' o o' b, σ.look k = some o → σ.look k' = some o' → (β k).b = some b → (β k').b = some b → k = k'
  objs : ∀ k o, σ.look k = some o → HLies w (okB C β σ.look w) β σ.look o (β k)
  lo : ∀ k o b, σ.look k = some o → (β k).b = some b → C.w0.heap.size ≤ b ∨ C.lent b
  ext2 : ∀ i o, σ.look (.ext i) = some o → ∃ o0, C.ext[i]? = some o0 ∧ o0.sim o ∧ β (.ext i) = C.γ i
  slots : ∀ t, SLies w (okB C β σ.look w) β σ.look (σ.get t) (a.tmps.getD t undef)
  size : C.w0.heap.size ≤ w.heap.size
  frame : ∀ b, b < C.w0.heap.size → ¬ C.lent b → w.heap[b]? = C.w0.heap[b]?
  quiet : Quiet C.w0 w

theorem Lies.oneCell {w : World} {ok : Nat → Prop} {x : PV} {v : Value} (h : Lies w ok x v) (h1 : x.one = true) : v.oneCell' = true := by
  cases h <;> first | rfl | (simp [PV.one] at h1)

theorem EntsLie.mono {w w' : World} {ok ok' : Nat → Prop} (hk : Keeps ok w w') (ho : ∀ b, ok b → ok' b) {kk : KK} {es : List (PV × PV)} {ents : List MapEntry} (h : EntsLie w ok kk es ents) : EntsLie w' ok' kk es ents :=
  ⟨h.1, fun j e u he hu => by obtain ⟨h1, h2, h3⟩ := h.2 j e u he hu; exact ⟨h1, h2.mono hk ho, h3.mono hk ho⟩⟩

/-- Objects in another memory, under other names. -/
theorem HLies.nm' {w w' : World} {ok ok' : Nat → Prop} {β β' : Key → Blk} {lk lk' : Key → Option HObj} (f : Key → Option Key) (hk : Keeps ok w w') (ho : ∀ b, ok b → ok' b)
    {o : HObj} {B : Blk} (hw : ∀ b, B.b = some b → w'.heap[b]? = w.heap[b]?) (h : HLies w ok β lk o B)
    (hb : ∀ k o' k', (∃ cs x, o = .box cs ∧ x ∈ cs ∧ x.names k = true) → lk k = some o' → f k = some k' → ∃ o'', lk' k' = some o'' ∧ o'.sim o'' ∧ β' k' = β k) : HLies w' ok' β' lk' (o.nm f) B := by
  cases o with
  | box cs =>
    obtain ⟨b, arr, T, h0, h1, h2, h3, h4⟩ := h
    refine ⟨b, arr, T, h0, (hw b h0).trans h1, by simpa using h2, h3, fun j x u hx hu => ?_⟩
    simp only [List.getElem?_map, Option.map_eq_some_iff] at hx
    obtain ⟨y, hy, rfl⟩ := hx
    exact (h4 j y u hy hu).nm' f hk ho (fun k o' k' hn => hb k o' k' ⟨cs, y, rfl, List.mem_of_getElem? hy, hn⟩)
  | row sz xs =>
    rcases h with h | ⟨b, arr, T, h0, h1, h2, h3, h4, h5⟩
    · exact .inl h
    · refine .inr ⟨b, arr, T, h0, (hw b h0).trans h1, h2, h3, h4, fun i j x y hx hy => ?_⟩
      obtain ⟨u, hu, hl⟩ := h5 i j x y hx hy
      exact ⟨u, hu, hl.mono hk ho⟩
  | map kk es =>
    obtain ⟨b, ents, clock, h0, h1, h2⟩ := h
    exact ⟨b, ents, clock, h0, (hw b h0).trans h1, h2.mono hk ho⟩

theorem HObj.nm_id (o : HObj) : o.nm some = o := by
  cases o with
  | box cs => simp only [HObj.nm]; congr 1; rw [List.map_congr_left (g := fun x => x) (fun v _ => SV.nm_id v)]; simp
  | row _ _ => rfl
  | map _ _ => rfl

theorem HLies.mono {w w' : World} {ok ok' : Nat → Prop} {β β' : Key → Blk} {lk lk' : Key → Option HObj} (hk : Keeps ok w w') (ho : ∀ b, ok b → ok' b)
    {o : HObj} {B B' : Blk} (hB : B' = B) (hw : ∀ b, B.b = some b → w'.heap[b]? = w.heap[b]?) (h : HLies w ok β lk o B)
    (hb : ∀ k o', (∃ cs x, o = .box cs ∧ x ∈ cs ∧ x.names k = true) → lk k = some o' → ∃ o'', lk' k = some o'' ∧ o'.sim o'' ∧ β' k = β k) : HLies w' ok' β' lk' o B' := by
  subst hB
  have := h.nm' (lk' := lk') (β' := β') some hk ho hw (fun k o' k' hn hl e => by cases e; exact hb k o' hn hl)
  rwa [HObj.nm_id] at this

/-- One and the same memory: a larger reach, and other objects in their shapes. -/
theorem HLies.same {w : World} {ok ok' : Nat → Prop} {β : Key → Blk} {lk lk' : Key → Option HObj} (ho : ∀ b, ok b → ok' b) {o : HObj} {B : Blk} (h : HLies w ok β lk o B)
    (hb : ∀ k o', lk k = some o' → ∃ o'', lk' k = some o'' ∧ o'.sim o'') : HLies w ok' β lk' o B :=
  h.mono (fun b _ off u hu => hu) ho rfl (fun _ _ => rfl) (fun k o' _ hk => by obtain ⟨o'', h1, h2⟩ := hb k o' hk; exact ⟨o'', h1, h2, rfl⟩)

/-! ### slots -/

theorem getS_put (l : List (Nat × SV)) (d : Nat) (v : SV) (t : Nat) : getS ((d, v) :: l) t = if d = t then v else getS l t := by
  simp only [getS]
  by_cases h : d = t
  · subst h; simp
  · have : (d == t) = false := by simpa using h
    simp [this, h]

theorem St.get_put (σ : St) (d : Option Nat) (v : SV) (t : Nat) : (σ.put d v).get t = if d = some t then v else σ.get t := by
  cases d with
  | none => simp [St.put]
  | some d => simp only [St.put, St.get, getS_put, Option.some.injEq]

@[simp] theorem St.look_put (σ : St) (d : Option Nat) (v : SV) (k : Key) : (σ.put d v).look k = σ.look k := by cases d <;> rfl
@[simp] theorem St.look_put' (σ : St) (d : Option Nat) (v : SV) : (σ.put d v).look = σ.look := funext fun k => σ.look_put d v k

theorem tmps_put (a : Act) (d : Option Nat) (v : Value) (t : Nat) (hd : ∀ i, d = some i → i < a.tmps.size) :
    (a.put d v).tmps.getD t undef = if d = some t then v else a.tmps.getD t undef := by
  cases d with
  | none => simp [Act.put]
  | some d =>
    have := hd d rfl
    by_cases h : d = t
    · subst h; simp [Act.put, this]
    · simp [Act.put, h, Array.getElem?_setIfInBounds_ne h]

section
variable {C : Ctx} {β : Key → Blk} {σ : St} {a : Act} {w : World}

theorem RR.put (h : RR C β σ a w) (d : Option Nat) (x : SV) (v : Value) (hd : ∀ i, d = some i → i < C.nt) (hs : SLies w (okB C β σ.look w) β σ.look x v) : RR C β (σ.put d x) (a.put d v) w := by
  refine ⟨?_, ?_, ?_, ?_, ?_, ?_, ?_, h.size, h.frame, h.quiet⟩
  · cases d <;> simpa [Act.put] using h.tsz
  · cases d <;> simpa [Act.put] using h.dfs
  · simpa using h.inj
  · simpa using h.objs
  · simpa using h.lo
  · simpa using h.ext2
  · intro t
    rw [tmps_put a d v t (by rw [h.tsz]; exact hd), St.get_put, St.look_put']
    split
    · exact hs
    · exact h.slots t

theorem RR.skip (h : RR C β σ a w) (d : Option Nat) (v : Value) (hd : ∀ i, d = some i → i < C.nt) : RR C β (σ.put d .dead) (a.put d v) w := h.put d .dead v hd (.dead v)

/-- The heap alone counts. -/
theorem Keeps.of_eq {p : Nat → Prop} {w w' : World} (h : w'.heap = w.heap) : Keeps p w w' := by
  intro b _ off u hu
  simpa [World.cell?, h] using hu

theorem okB_eq {lk : Key → Option HObj} {w w' : World} (h : w'.heap = w.heap) : okB C β lk w' = okB C β lk w := by funext b; simp [okB, h]

theorem RR.heap (h : RR C β σ a w) {w' : World} (hw : w'.heap = w.heap) (hq : Quiet w w') : RR C β σ a w' := by
  refine ⟨h.tsz, h.dfs, h.inj, ?_, h.lo, h.ext2, ?_, ?_, ?_, h.quiet.trans hq⟩
  · intro k o hk
    rw [okB_eq hw]
    exact (h.objs k o hk).mono (Keeps.of_eq hw) (fun _ h => h) rfl (fun _ _ => by rw [hw]) (fun k o _ hk => ⟨o, hk, o.sim_refl, rfl⟩)
  · intro t
    rw [okB_eq hw]
    exact (h.slots t).mono (Keeps.of_eq hw) (fun _ h => h) (fun k o hk => ⟨o, hk, o.sim_refl, rfl⟩)
  · rw [hw]; exact h.size
  · rw [hw]; exact h.frame

theorem HLies.lt {w : World} {ok : Nat → Prop} {lk : Key → Option HObj} {o : HObj} {B : Blk} (h : HLies w ok β lk o B) {b : Nat} (hb : B.b = some b) : b < w.heap.size := by
  cases o with
  | box cs => obtain ⟨b', arr, T, h0, h1, _⟩ := h; rw [hb] at h0; cases h0; exact (Array.getElem?_eq_some_iff.1 h1).1
  | row sz xs =>
    rcases h with h | ⟨b', arr, T, h0, h1, _⟩
    · rw [hb] at h; cases h.1
    · rw [hb] at h0; cases h0; exact (Array.getElem?_eq_some_iff.1 h1).1
  | map kk es => obtain ⟨b', ents, clock, h0, h1, _⟩ := h; rw [hb] at h0; cases h0; exact (Array.getElem?_eq_some_iff.1 h1).1

theorem RR.blk_lt (h : RR C β σ a w) {k : Key} {o : HObj} (hk : σ.look k = some o) {b : Nat} (hb : (β k).b = some b) : b < w.heap.size := (h.objs k o hk).lt hb

/-- Slots alone differ. -/
theorem RR.slots_of (h : RR C β σ a w) {σ' : St} (hp : σ'.look = σ.look) (hs : ∀ t, SLies w (okB C β σ.look w) β σ.look (σ'.get t) (a.tmps.getD t undef)) : RR C β σ' a w := by
  refine ⟨h.tsz, h.dfs, ?_, ?_, ?_, ?_, ?_, h.size, h.frame, h.quiet⟩ <;> rw [hp]
  · exact h.inj
  · exact h.objs
  · exact h.lo
  · exact h.ext2
  · exact hs

theorem St.get_forget (σ : St) (keep : List Nat) (t : Nat) : (σ.forget keep).get t = σ.get t ∨ (σ.forget keep).get t = .dead := by
  unfold St.forget St.get
  simp only
  induction keep with
  | nil => right; rfl
  | cons k ks ih =>
    simp only [St.forget.go, getS_put]
    by_cases hk : k = t
    · subst hk; left; simp
    · simpa [hk] using ih

theorem RR.forget (h : RR C β σ a w) (keep : List Nat) : RR C β (σ.forget keep) a w := by
  refine h.slots_of rfl (fun t => ?_)
  rcases σ.get_forget keep t with e | e
  · rw [e]; exact h.slots t
  · rw [e]; exact .dead _

end

end Go.Av
