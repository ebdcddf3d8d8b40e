/- Operations that change what was there: stores and appends. -/
import Derived.Test.YtkcilagjhieapaaBv8
set_option linter.unusedVariables false
set_option linter.unusedSimpArgs false
namespace Go.Av

theorem lookH_over (l : List (Key × HObj)) (k : Key) (o : HObj) (k' : Key) : lookH (l.map fun p => if p.1 = k then (k, o) else p) k' = if k' = k then (lookH l k).map (fun _ => o) else lookH l k' := by
  induction l with
  | nil => simp [lookH]
  | cons p l ih =>
    obtain ⟨i, v⟩ := p
    simp only [List.map_cons]
    by_cases hi : i = k
    · subst hi
      simp only [if_true, lookH, ih]
      by_cases hk : k' = i
      · subst hk; simp
      · rw [if_neg (fun e => hk e.symm), if_neg hk, if_neg hk, if_neg (fun e => hk e.symm)]
    · simp only [hi, if_false, lookH, ih]
      by_cases hk : k' = k
      · subst hk; simp [hi]
      · simp [hk]

theorem St.look_over (σ : St) (k : Key) (o : HObj) (k' : Key) : (σ.over k o).look k' = if k' = k then (σ.look k).map (fun _ => o) else σ.look k' := lookH_over σ.hp k o k'

@[simp] theorem St.get_over (σ : St) (k : Key) (o : HObj) (t : Nat) : (σ.over k o).get t = σ.get t := rfl

section
variable {P : Program} {C : Ctx} {β : Key → Blk} {σ : St} {a : Act} {w : World} {o : Oper}

theorem over_some {k : Key} {o1 o' : HObj} (hk : σ.look k = some o1) (hs : o1.sim o') : ∀ k2 o2, σ.look k2 = some o2 → ∃ o3, (σ.over k o').look k2 = some o3 ∧ o2.sim o3 ∧ β k2 = β k2 := by
  intro k2 o2 h2
  rw [St.look_over]
  by_cases e : k2 = k
  · subst e; rw [hk] at h2; cases h2; exact ⟨o', by simp [hk], hs, rfl⟩
  · exact ⟨o2, by simp [e, h2], o2.sim_refl, rfl⟩

theorem over_back {k : Key} {o1 o' : HObj} (hk : σ.look k = some o1) : ∀ k2 o2, (σ.over k o').look k2 = some o2 → (k2 = k ∧ o2 = o') ∨ (k2 ≠ k ∧ σ.look k2 = some o2) := by
  intro k2 o2 h2
  rw [St.look_over] at h2
  by_cases e : k2 = k
  · subst e; simp [hk] at h2; exact .inl ⟨rfl, h2.symm⟩
  · simp [e] at h2; exact .inr ⟨e, h2⟩

theorem over_ok {k : Key} {o1 o' : HObj} (hk : σ.look k = some o1) {w' : World} (hw : w'.heap.size = w.heap.size) (b : Nat) : okB C β (σ.over k o').look w' b ↔ okB C β σ.look w b := by
  constructor
  · rintro ⟨h1, h2, h3⟩
    refine ⟨by rw [← hw]; exact h1, fun k2 o2 h => ?_, h3⟩
    by_cases e : k2 = k
    · subst e; exact h2 k2 o' (by rw [St.look_over]; simp [hk])
    · exact h2 k2 o2 (by rw [St.look_over]; simp [e, h])
  · rintro ⟨h1, h2, h3⟩
    refine ⟨by rw [hw]; exact h1, fun k2 o2 h => ?_, h3⟩
    rcases over_back hk k2 o2 h with ⟨rfl, rfl⟩ | ⟨_, h⟩
    · exact h2 _ _ hk
    · exact h2 k2 o2 h

theorem keeps_other {k : Key} {o1 : HObj} (hk : σ.look k = some o1) {b : Nat} (hb : (β k).b = some b) {w' : World} (hoth : ∀ b', b' ≠ b → w'.heap[b']? = w.heap[b']?) : Keeps (okB C β σ.look w) w w' := by
  intro b' hb' off u hu
  have hne : b' ≠ b := fun e => by subst e; exact hb'.2.1 k o1 hk hb
  simp only [World.cell?, hoth b' hne]
  exact hu

theorem over_mono' {k : Key} {o1 o' : HObj} (hk : σ.look k = some o1) (hs : o1.sim o') {b : Nat} (hb : (β k).b = some b) {w' : World} (hsz : w'.heap.size = w.heap.size) (hoth : ∀ b', b' ≠ b → w'.heap[b']? = w.heap[b']?) {x : SV} {v : Value} (hx : SLies w (okB C β σ.look w) β σ.look x v) :
    SLies w' (okB C β (σ.over k o').look w') β (σ.over k o').look x v :=
  hx.mono (keeps_other hk hb hoth) (fun b hb => (over_ok hk hsz b).2 hb) (over_some hk hs)

theorem over_monoL' {k : Key} {o1 o' : HObj} (hk : σ.look k = some o1) {b : Nat} (hb : (β k).b = some b) {w' : World} (hsz : w'.heap.size = w.heap.size) (hoth : ∀ b', b' ≠ b → w'.heap[b']? = w.heap[b']?) {x : PV} {v : Value} (hx : Lies w (okB C β σ.look w) x v) :
    Lies w' (okB C β (σ.over k o').look w') x v :=
  hx.mono (keeps_other hk hb hoth) (fun b hb => (over_ok hk hsz b).2 hb)

/-- What lies under a name is changed. -/
theorem RR.over (h : RR C β σ a w) {k : Key} {o1 o' : HObj} (hk : σ.look k = some o1) (hs : o1.sim o') {b : Nat} (hb : (β k).b = some b) {w' : World} (hsz : w'.heap.size = w.heap.size) (hoth : ∀ b', b' ≠ b → w'.heap[b']? = w.heap[b']?) (hq : Quiet w w')
    (hobj : HLies w' (okB C β (σ.over k o').look w') β (σ.over k o').look o' (β k)) : RR C β (σ.over k o') a w' := by
  refine ⟨h.tsz, h.dfs, ?_, ?_, ?_, ?_, ?_, by rw [hsz]; exact h.size, ?_, h.quiet.trans hq⟩
  · intro k1 k2 o2 o3 b1 h1 h2 e1 e2
    have g : ∀ k2 o2, (σ.over k o').look k2 = some o2 → ∃ o3, σ.look k2 = some o3 := fun k2 o2 h2 => by
      rcases over_back hk k2 o2 h2 with ⟨rfl, _⟩ | ⟨_, h⟩
      · exact ⟨_, hk⟩
      · exact ⟨_, h⟩
    obtain ⟨_, g1⟩ := g k1 _ h1
    obtain ⟨_, g2⟩ := g k2 _ h2
    exact h.inj k1 k2 _ _ b1 g1 g2 e1 e2
  · intro k2 o2 h2
    rcases over_back hk k2 o2 h2 with ⟨rfl, rfl⟩ | ⟨hne, h2'⟩
    · exact hobj
    · exact (h.objs k2 o2 h2').mono (keeps_other hk hb hoth) (fun b hb => (over_ok hk hsz b).2 hb) rfl (fun b2 hb2 => hoth b2 (fun e => by subst e; exact hne (h.inj k2 k _ _ b2 h2' hk hb2 hb))) (fun k3 o3 _ h3 => over_some hk hs k3 o3 h3)
  · intro k2 o2 b2 h2 hx
    rcases over_back hk k2 o2 h2 with ⟨rfl, _⟩ | ⟨_, h'⟩
    · exact h.lo _ _ b2 hk hx
    · exact h.lo k2 o2 b2 h' hx
  · intro i o2 h2
    rcases over_back hk _ o2 h2 with ⟨e, rfl⟩ | ⟨_, h'⟩
    · subst e
      obtain ⟨o0, g1, g2, g3⟩ := h.ext2 i _ hk
      exact ⟨o0, g1, HObj.sim_trans g2 hs, g3⟩
    · exact h.ext2 i _ h'
  · intro t
    exact over_mono' hk hs hb hsz hoth (h.slots t)
  · intro b2 hb2 hx
    have hne : b2 ≠ b := by
      intro e
      subst e
      rcases h.lo k _ b2 hk hb with h1 | h1
      · omega
      · exact hx h1
    rw [hoth b2 hne]
    exact h.frame b2 hb2 hx

/-! ### stores -/

theorem run_storeVar' {t : TypeId} {i : TypeInfo} {v : Value} (hi : P.info? t = some i) (hv : v.cells.size = i.size) (h1 : ∀ u ∈ v.cells, u.oneCell' = true) {g off : Nat} {T : TypeId} {cur : Array Value} (hg : w.heap[g]? = some (.cells cur T (0, 0))) (hle : off + i.size ≤ cur.size) :
    (storeVar t ⟨g, off, none⟩ v).run P w = .ok () (w.setRow g (cur.toList.take off ++ v.cells.toList ++ cur.toList.drop (off + i.size)).toArray) := by
  have := run_storeCells_at P g off T v.cells.toList 0 cur w hg (by simp [hv]; exact hle) (fun u hu => h1 u (by simpa using hu))
  simp only [storeVar, Sem.run_bind, run_sizeOf' hi, Result.andThen_ok, hv, ne_eq, not_true_eq_false, if_false, this, Nat.add_zero, Array.length_toList, Sem.run_pure]

theorem sound_store_box (h : RR C β σ a w) (hd : ∀ i, o.dst = some i → i < C.nt) {t : TypeId} {n : Nat} {x y : Operand} {x' y' : Opd} (ho : o.op = .store t x y) {i : TypeInfo} (hi : P.info? t = some i) (hn : i.size = n) (hx : agreeO x x' = true) (hy : agreeO y y' = true)
    {k : Key} {off : Nat} {cs : List SV} (ex : σ.ev x' = .ptr k off) (hk : σ.look k = some (.box cs)) (n1 : ∀ vs, σ.ev y' ≠ .tup vs) (n2 : σ.ev y' ≠ .dead) (hl : (σ.ev y').cells.length = n) (hle : off + n ≤ cs.length) :
    StepOK P C ((σ.over k (.box (setRange cs off (σ.ev y').cells))).put o.dst .dead) o a w := by
  subst hn
  have hxl := h.ev hx
  rw [ex] at hxl
  obtain ⟨b, arr, T, g0, g1, g2, g3, g4⟩ := h.objs k _ hk
  have hxe : a.eval x = .pointer (some ⟨b, off, none⟩) := by
    generalize a.eval x = xv at hxl
    cases hxl with
    | ptr _ _ _ b' _ hb' => rw [g0] at hb'; cases hb'; rfl
  have hcl := cells_lie (h.ev hy) n1 n2
  have hvs : (a.eval y).cells.size = i.size := by have := hcl.1; simp at this; omega
  have hcs : CellsLie w (okB C β σ.look w) β σ.look cs arr.toList := ⟨by simpa using g2.symm, fun u hu => g3 u (by simpa using hu), fun j y u hy hu => g4 j y u hy (by simpa using hu)⟩
  have hnew := hcs.fill hcl off i.size hl
  have hr := run_storeVar' (P := P) (t := t) hi hvs (fun u hu => hcl.2.1 u (by simpa using hu)) g1 (off := off) (by omega)
  intro K hK Q
  refine wp_skipv (w' := w.setRow b (arr.toList.take off ++ (a.eval y).cells.toList ++ arr.toList.drop (off + i.size)).toArray) ?_ (hK β _ _ (RR.put (h.over hk (o' := .box (setRange cs off (σ.ev y').cells)) trivial g0 (by simp) (fun b' hne => setRow_other w b b' _ hne) (Quiet.setRow _ _ _) ?_) o.dst .dead undef hd (.dead _)))
  · simp only [execOp, ho, Sem.run_bind, Instr.storeAt, hxe, Instr.sureAddr, Sem.run_pure, Result.andThen_ok, hr]
  · refine ⟨b, _, T, g0, setRow_heap w _ arr _ T (0, 0) g1, ?_, fun u hu => hnew.2.1 u (by simpa using hu), fun j z u hz hu => ?_⟩
    · have := hnew.1
      simp only [setRange, hl, List.size_toArray]
      exact this.symm
    · simp only [setRange, hl] at hz
      exact over_mono' (o' := .box (setRange cs off (σ.ev y').cells)) hk trivial g0 (by simp) (fun b' hne => setRow_other w b b' _ hne) (hnew.2.2 j z u hz (by simpa [setRange, hl] using hu))

theorem splice_get (arr : Array Value) (vs : List Value) (o n q : Nat) (hn : vs.length = n) (hle : o + n ≤ arr.size) :
    (arr.toList.take o ++ vs ++ arr.toList.drop (o + n)).toArray[q]? = if o ≤ q ∧ q < o + n then vs[q - o]? else arr[q]? := by
  simp only [List.getElem?_toArray, List.getElem?_append, List.length_append, List.length_take, Array.length_toList, List.getElem?_take, List.getElem?_drop, hn]
  by_cases h1 : q < o
  · have h2 : q < min o arr.size + n := by omega
    have h3 : q < min o arr.size := by omega
    rw [if_pos h2, if_pos h3, if_pos h1, if_neg (by omega)]
    simp
  · by_cases h2 : q < o + n
    · rw [if_pos (by omega), if_neg (by omega), if_pos ⟨by omega, h2⟩]
      congr 1; omega
    · rw [if_neg (by omega), if_neg (by omega)]
      simp
      congr 1; omega

theorem setCells_cells {e v e' : PV} {off n : Nat} (h : e.setCells off v = some e') (hv : v.cells.length = n) (hle : off + n ≤ e.cells.length) (hf : e.fine) (hfv : v.fine) :
    e'.cells.length = e.cells.length ∧ e'.fine ∧ ∀ j, e'.cells[j]? = if off ≤ j ∧ j < off + n then v.cells[j - off]? else e.cells[j]? := by
  have single : (∀ cs, e ≠ .agg cs) → e.cells = [e] := fun hne => by cases e <;> first | rfl | exact absurd rfl (hne _)
  by_cases hagg : ∃ cs, e = .agg cs
  · obtain ⟨cs, rfl⟩ := hagg
    simp only [PV.setCells, Option.some.injEq] at h; subst h
    have ec : (PV.agg cs).cells = cs := rfl
    have ec2 : (PV.agg (setRange cs off v.cells)).cells = setRange cs off v.cells := rfl
    rw [ec] at hle
    rw [ec, ec2]
    have hg : ∀ j, (setRange cs off v.cells)[j]? = if off ≤ j ∧ j < off + n then v.cells[j - off]? else cs[j]? := by
      intro j
      simp only [setRange, hv, List.getElem?_append, List.length_append, List.length_take, List.getElem?_take, List.getElem?_drop]
      by_cases h1 : j < off
      · rw [if_pos (by omega), if_pos (by omega), if_pos h1, if_neg (by omega)]
      · by_cases h2 : j < off + n
        · rw [if_pos (by omega), if_neg (by omega), if_pos ⟨by omega, h2⟩]; congr 1; omega
        · rw [if_neg (by omega), if_neg (by omega)]; congr 1; omega
    refine ⟨by simp only [setRange, List.length_append, List.length_take, List.length_drop, hv]; omega, fun y hy => ?_, hg⟩
    rw [ec2] at hy
    simp only [setRange] at hy
    rcases List.mem_append.1 hy with hy | hy
    · rcases List.mem_append.1 hy with hy | hy
      · exact hf y (List.mem_of_mem_take hy)
      · exact hfv y hy
    · exact hf y (List.mem_of_mem_drop hy)
  · have hne : ∀ cs, e ≠ .agg cs := fun cs e1 => hagg ⟨cs, e1⟩
    have hs := single hne
    have hv1 : v.one = true ∧ e' = v := by
      cases e <;> simp only [PV.setCells] at h <;> first
        | exact absurd rfl (hne _)
        | (cases hvo : v.one <;> simp [hvo] at h; exact ⟨rfl, h.symm⟩)
    obtain ⟨hv1, rfl⟩ := hv1
    have hvc : e'.cells = [e'] := by cases e' <;> first | rfl | (simp [PV.one] at hv1)
    rw [hs] at hle ⊢
    rw [hvc] at hv ⊢
    simp at hv hle
    have hoff : off = 0 := by omega
    subst hoff; subst hv
    refine ⟨rfl, by intro y hy; rw [hvc] at hy; simp at hy; subst hy; exact hv1, fun j => ?_⟩
    by_cases hj : j = 0
    · subst hj; simp
    · rw [if_neg (by omega)]
      simp [List.getElem?_cons, hj]

theorem sound_store_row (h : RR C β σ a w) (hd : ∀ i, o.dst = some i → i < C.nt) {t : TypeId} {n : Nat} {x y : Operand} {x' y' : Opd} (ho : o.op = .store t x y) {it : TypeInfo} (hi : P.info? t = some it) (hn : it.size = n) (hx : agreeO x x' = true) (hy : agreeO y y' = true)
    {k : Key} {i off sz : Nat} {xs : List PV} {v e e' : PV} (ex : σ.ev x' = .iown k i off) (ey : σ.ev y' = .pv v) (hk : σ.look k = some (.row sz xs)) (he : xs[i]? = some e) (hl : v.cells.length = n) (hle : off + n ≤ e.cells.length) (hs : e.setCells off v = some e') :
    StepOK P C ((σ.over k (.row sz (xs.set i e'))).put o.dst .dead) o a w := by
  subst hn
  have hxl := h.ev hx
  rw [ex] at hxl
  have hil : i < xs.length := (List.getElem?_eq_some_iff.1 he).1
  obtain ⟨b, arr, T, g0, g1, g2, g3, g4, g5⟩ := (h.objs k _ hk).resolve_left (fun e1 => by rw [e1.2.1] at hil; simp at hil)
  have hxe : a.eval x = .pointer (some ⟨b, i * sz + off, none⟩) := by
    generalize a.eval x = xv at hxl
    cases hxl with
    | iown _ _ _ sz' xs' b' hk' hb' _ => rw [hk] at hk'; cases hk'; rw [g0] at hb'; cases hb'; rfl
  have hyl := h.ev hy
  rw [ey] at hyl
  have hvl := slies_pv hyl
  obtain ⟨c1, c2, c3⟩ := lies_cells hvl
  have hvs : (a.eval y).cells.size = it.size := by rw [← c1]; exact hl
  have hem := g4 e (List.mem_of_getElem? he)
  obtain ⟨s1, s2, s3⟩ := setCells_cells hs hl hle hem.2 hvl.fine
  have hfit : i * sz + off + it.size ≤ arr.size := by
    rw [g3]
    have : (i + 1) * sz ≤ (β k).c * sz := Nat.mul_le_mul_right _ (by omega)
    rw [Nat.add_mul] at this
    have := hem.1
    omega
  have hr := run_storeVar' (P := P) (t := t) hi hvs c2 g1 (off := i * sz + off) hfit
  have hsim : (HObj.row sz xs).sim (.row sz (xs.set i e')) := ⟨rfl, by simp⟩
  intro K hK Q
  refine wp_skipv (w' := w.setRow b (arr.toList.take (i * sz + off) ++ (a.eval y).cells.toList ++ arr.toList.drop (i * sz + off + it.size)).toArray) ?_ (hK β _ _ (RR.put (h.over hk hsim g0 (by simp) (fun b' hne => setRow_other w b b' _ hne) (Quiet.setRow _ _ _) ?_) o.dst .dead undef hd (.dead _)))
  · simp only [execOp, ho, Sem.run_bind, Instr.storeAt, hxe, Instr.sureAddr, Sem.run_pure, Result.andThen_ok, hr]
  · have hsp := fun q => splice_get arr (a.eval y).cells.toList (i * sz + off) it.size q (by simpa using hvs) hfit
    refine .inr ⟨b, _, T, g0, setRow_heap w _ arr _ T (0, 0) g1, by simpa using g2, ?_, fun z hz => ?_, fun i2 j z q hz hq => ?_⟩
    · simp only [List.size_toArray, List.length_append, List.length_take, List.length_drop, Array.length_toList, hvs]
      rw [← g3]; omega
    · rcases List.mem_or_eq_of_mem_set hz with hz | rfl
      · exact g4 z hz
      · exact ⟨by rw [s1]; exact hem.1, s2⟩
    · rw [hsp]
      have hj : j < sz := by
        have hjl := (List.getElem?_eq_some_iff.1 hq).1
        have hzm := List.mem_of_getElem? hz
        rcases List.mem_or_eq_of_mem_set hzm with hz' | rfl
        · rw [← (g4 z hz').1]; exact hjl
        · rw [s1, hem.1] at hjl; exact hjl
      have hes : e.cells.length = sz := hem.1
      by_cases hi2 : i2 = i
      · subst hi2
        simp only [List.getElem?_set_self hil, Option.some.injEq] at hz
        subst hz
        rw [s3 j] at hq
        by_cases hin : off ≤ j ∧ j < off + it.size
        · rw [if_pos hin] at hq
          have hjv : j - off < (a.eval y).cells.size := by rw [hvs]; omega
          refine ⟨(a.eval y).cells[j - off], ?_, over_monoL' hk g0 (by simp) (fun b' hne => setRow_other w b b' _ hne) (c3 (j - off) q _ hq (Array.getElem?_eq_getElem hjv))⟩
          rw [if_pos (by omega)]
          rw [show i2 * sz + j - (i2 * sz + off) = j - off by omega]
          simp [hjv]
        · rw [if_neg hin] at hq
          obtain ⟨u, hu, hL⟩ := g5 i2 j e q he hq
          refine ⟨u, ?_, over_monoL' hk g0 (by simp) (fun b' hne => setRow_other w b b' _ hne) hL⟩
          rw [if_neg (by omega)]
          exact hu
      · rw [List.getElem?_set_ne (fun e => hi2 e.symm)] at hz
        obtain ⟨u, hu, hL⟩ := g5 i2 j z q hz hq
        refine ⟨u, ?_, over_monoL' hk g0 (by simp) (fun b' hne => setRow_other w b b' _ hne) hL⟩
        have hout : ¬ (i * sz + off ≤ i2 * sz + j ∧ i2 * sz + j < i * sz + off + it.size) := by
          rcases Nat.lt_or_gt_of_ne hi2 with hlt | hgt
          · have : (i2 + 1) * sz ≤ i * sz := Nat.mul_le_mul_right _ hlt
            rw [Nat.add_mul] at this
            omega
          · have : (i + 1) * sz ≤ i2 * sz := Nat.mul_le_mul_right _ hgt
            rw [Nat.add_mul] at this
            omega
        rw [if_neg hout]
        exact hu

end
end Go.Av
