/- Appends. -/
import Derived.Test.YtkcilagjhieapaaAv9
set_option linter.unusedVariables false
set_option linter.unusedSimpArgs false
namespace Go.Av
section
variable {P : Program} {C : Ctx} {β : Key → Blk} {σ : St} {a : Act} {w : World} {o : Oper}

/-- Under a name there is something anew: where it was, or in a new block. -/
theorem RR.renew (h : RR C β σ a w) (k : Key) (hk : ∀ i, k ≠ .ext i) (o1 : HObj) (B : Blk) (w' : World) (hsz : w.heap.size ≤ w'.heap.size) (hB : C.w0.heap.size ≤ B.b)
    (hB2 : ∀ k2 o2, k2 ≠ k → σ.look k2 = some o2 → (β k2).b ≠ B.b) (hB3 : ∀ b, okB C β σ.look w b → b ≠ B.b) (hfr : ∀ b, b < w.heap.size → b ≠ B.b → w'.heap[b]? = w.heap[b]?)
    (hobj : ∀ β' : Key → Blk, (∀ b, okB C β σ.look w b → okB C β' ((σ.kill k).insAll [(k, o1)]).look w' b) → (Keeps (okB C β σ.look w) w w') →
      HLies w' (okB C β' ((σ.kill k).insAll [(k, o1)]).look w') β' ((σ.kill k).insAll [(k, o1)]).look o1 B) (hq : Quiet w w' := by first | exact Quiet.setRow _ _ _ | exact Quiet.trans (Quiet.drawn _ _) (Quiet.alloc _ _)) :
    ∃ β', β' k = B ∧ RR C β' ((σ.kill k).insAll [(k, o1)]) a w' := by
  refine ⟨fun k' => if k' = k then B else β k', by simp, ?_⟩
  generalize hβ : (fun k' => if k' = k then B else β k') = β'
  have b1 : ∀ k', k' ≠ k → β' k' = β k' := fun k' hne => by rw [← hβ]; simp [hne]
  have b2 : β' k = B := by rw [← hβ]; simp
  have hl : ∀ k', k' ≠ k → ((σ.kill k).insAll [(k, o1)]).look k' = (σ.look k').map (HObj.kill k) := fun k' hne => by
    rw [St.look_ins, if_neg (fun e => hne e.symm), St.look_kill, if_neg hne]
  have hlk : ((σ.kill k).insAll [(k, o1)]).look k = some o1 := by rw [St.look_ins]; simp
  have hback : ∀ k' o', k' ≠ k → ((σ.kill k).insAll [(k, o1)]).look k' = some o' → ∃ o2, σ.look k' = some o2 ∧ o' = o2.kill k := fun k' o' hne h' => by
    rw [hl k' hne, Option.map_eq_some_iff] at h'
    obtain ⟨o2, h1, h2⟩ := h'
    exact ⟨o2, h1, h2.symm⟩
  have hok : ∀ b, okB C β σ.look w b → okB C β' ((σ.kill k).insAll [(k, o1)]).look w' b := by
    intro b hb
    refine ⟨by have := hb.1; omega, fun k' o' h' => ?_, hb.2.2⟩
    by_cases e : k' = k
    · subst e; rw [b2]; exact fun e => hB3 b hb e.symm
    · obtain ⟨o2, h2, _⟩ := hback k' o' e h'
      rw [b1 k' e]; exact hb.2.1 k' o2 h2
  have hkeep : Keeps (okB C β σ.look w) w w' := by
    intro b hb off u hu
    simp only [World.cell?, hfr b hb.1 (hB3 b hb)]
    exact hu
  have mono : ∀ {x : SV} {v : Value}, SLies w (okB C β σ.look w) β σ.look x v → SLies w' (okB C β' ((σ.kill k).insAll [(k, o1)]).look w') β' ((σ.kill k).insAll [(k, o1)]).look (x.kill k) v := by
    intro x v hx
    rcases SV.kill_or k x with e | ⟨e, hn⟩
    · rw [e]; exact .dead v
    · rw [e]
      refine hx.mono' hkeep hok (fun k' o' hk' hl' => ?_)
      have hne : k' ≠ k := fun e => by subst e; rw [hn] at hk'; cases hk'
      exact ⟨o'.kill k, by rw [hl k' hne, hl']; rfl, o'.kill_sim k, b1 k' hne⟩
  refine ⟨h.tsz, h.dfs, ?_, ?_, ?_, ?_, ?_, ?_, Nat.le_trans h.size hsz, ?_, h.quiet.trans hq⟩
  · intro k1 k2 o2 o3 h1 h2 e
    by_cases e1 : k1 = k
    · by_cases e2 : k2 = k
      · rw [e1, e2]
      · obtain ⟨o4, h4, _⟩ := hback k2 _ e2 h2
        rw [e1, b2, b1 k2 e2] at e
        exact absurd e.symm (hB2 k2 o4 e2 h4)
    · obtain ⟨o4, h4, _⟩ := hback k1 _ e1 h1
      by_cases e2 : k2 = k
      · rw [e2, b2, b1 k1 e1] at e
        exact absurd e (hB2 k1 o4 e1 h4)
      · obtain ⟨o5, h5, _⟩ := hback k2 _ e2 h2
        rw [b1 k1 e1, b1 k2 e2] at e
        exact h.inj k1 k2 _ _ h4 h5 e
  · intro k' o' h'
    by_cases e : k' = k
    · subst e; rw [hlk] at h'; cases h'; rw [b2]; exact hobj β' hok hkeep
    · obtain ⟨o2, h2, rfl⟩ := hback k' o' e h'
      have hb := h.objs k' o2 h2
      have hblk : w'.heap[(β k').b]? = w.heap[(β k').b]? := hfr _ (h.blk_lt h2) (hB2 k' o2 e h2)
      rw [b1 k' e]
      cases o2 with
      | box cs =>
        obtain ⟨arr, T, e1, e2, e3, e4⟩ := hb
        refine ⟨arr, T, hblk.trans e1, by simpa using e2, e3, fun j x u hx hu => ?_⟩
        simp only [List.getElem?_map, Option.map_eq_some_iff] at hx
        obtain ⟨x', hx', rfl⟩ := hx
        exact mono (e4 j x' u hx' hu)
      | row sz xs =>
        obtain ⟨arr, T, e1, e2, e3, e4, e5⟩ := hb
        refine ⟨arr, T, hblk.trans e1, e2, e3, e4, fun i j x y hx hy => ?_⟩
        obtain ⟨u, hu, hl⟩ := e5 i j x y hx hy
        exact ⟨u, hu, hl.mono hkeep hok⟩
  · intro k' o' h' hx
    by_cases e : k' = k
    · subst e; rw [b2]; exact hB
    · obtain ⟨o2, h2, _⟩ := hback k' o' e h'
      rw [b1 k' e]; exact h.lo k' o2 h2 hx
  · intro i hi
    obtain ⟨cs, hcs⟩ := h.ext1 i hi
    exact ⟨cs.map (SV.kill k), by rw [hl _ (fun e => hk i e.symm), hcs]; rfl⟩
  · intro i o' h'
    obtain ⟨o2, h2, _⟩ := hback _ o' (fun e => hk i e.symm) h'
    rw [b1 _ (fun e => hk i e.symm)]
    exact h.ext2 i o2 h2
  · intro t
    rw [St.get_insAll, St.get_kill]
    exact mono (h.slots t)
  · intro b hb hx
    have hs := h.size
    by_cases e : b = B.b
    · omega
    · rw [hfr b (by omega) e]; exact h.frame b hb hx

/-- The elements of a slice, cell by cell. -/
theorem elems_cells (h : RR C β σ a w) {x : SV} {v : Value} (hx : SLies w (okB C β σ.look w) β σ.look x v) {ys : List PV} (he : σ.elems x = some ys) {sz : Nat} (ha : allLen sz ys = true) (h0 : sz ≠ 0) :
    ∃ (ad : Option Addr) (c : Nat) (news : List Value), v = .slice ad ys.length c ∧ news.length = ys.length * sz ∧ (∀ u ∈ news, u.oneCell' = true) ∧
      (∀ (i j : Nat) (x y : PV), ys[i]? = some x → x.cells[j]? = some y → ∃ u, news[i * sz + j]? = some u ∧ Lies w (okB C β σ.look w) y u) ∧
      (0 < ys.length → ∃ b : Addr, ad = some b ∧ ∀ (j : Nat) (u : Value), news[j]? = some u → w.cell? (b.add j) = some u) := by
  have hsz := allLen_spec ha
  have ones : ∀ (news : List Value), news.length = ys.length * sz → (∀ x ∈ ys, x.fine) → (∀ (i j : Nat) (x y : PV), ys[i]? = some x → x.cells[j]? = some y → ∃ u, news[i * sz + j]? = some u ∧ Lies w (okB C β σ.look w) y u) → ∀ u ∈ news, u.oneCell' = true := by
    intro news hl hf hn u hu
    obtain ⟨q, hq⟩ := List.mem_iff_getElem?.1 hu
    have hql := (List.getElem?_eq_some_iff.1 hq).1
    have hpos : 0 < sz := by omega
    have hi : q / sz < ys.length := (Nat.div_lt_iff_lt_mul hpos).2 (by omega)
    have hj : q % sz < sz := Nat.mod_lt _ hpos
    have hm := List.getElem_mem hi
    have hjl : q % sz < (ys[q / sz]).cells.length := by rw [hsz _ hm]; exact hj
    obtain ⟨u', hu', hL⟩ := hn (q / sz) (q % sz) _ _ (List.getElem?_eq_getElem hi) (List.getElem?_eq_getElem hjl)
    rw [Nat.mul_comm, Nat.div_add_mod, hq] at hu'
    cases hu'
    exact hL.oneCell (hf _ hm _ (List.getElem_mem hjl))
  cases x <;> simp only [St.elems] at he <;> try (cases he; done)
  · rename_i p
    cases p <;> simp only at he <;> try (cases he; done)
    cases he
    obtain ⟨ad, c, sz1, us, rfl, hc, hsz1, h1, hat, hp, hlie⟩ := lies_slice (slies_pv hx)
    let news := (List.range (ys.length * sz)).map fun q => us (q / sz) (q % sz)
    have hn : ∀ (i j : Nat) (x y : PV), ys[i]? = some x → x.cells[j]? = some y → ∃ u, news[i * sz + j]? = some u ∧ Lies w (okB C β σ.look w) y u := by
      intro i j x y hx hy
      have hi := (List.getElem?_eq_some_iff.1 hx).1
      have hj : j < sz := by have := (List.getElem?_eq_some_iff.1 hy).1; rw [hsz x (List.mem_of_getElem? hx)] at this; exact this
      obtain ⟨r1, r2⟩ := row_cell (i := i) hj
      have hlt : i * sz + j < ys.length * sz := by
        have : (i + 1) * sz ≤ ys.length * sz := Nat.mul_le_mul_right _ hi
        rw [Nat.add_mul] at this; omega
      exact ⟨us i j, by simp [news, hlt, r1, r2], hlie i j x y hx hy⟩
    refine ⟨ad, c, news, rfl, by simp [news], ones news (by simp [news]) h1 hn, hn, fun hpos => ?_⟩
    obtain ⟨b, rfl, hbs⟩ := hp hpos
    refine ⟨b, rfl, fun q u hu => ?_⟩
    simp only [news, List.getElem?_map, Option.map_eq_some_iff] at hu
    obtain ⟨q', hq', rfl⟩ := hu
    obtain ⟨hlt, rfl⟩ := List.getElem?_eq_some_iff.1 hq'
    simp only [List.length_range] at hlt
    simp only [List.getElem_range]
    have hpos2 : 0 < sz := by omega
    have hi : q / sz < ys.length := (Nat.div_lt_iff_lt_mul hpos2).2 hlt
    have hs1 : sz1 = sz := by rw [← hsz1 _ (List.getElem_mem hi), hsz _ (List.getElem_mem hi)]
    subst hs1
    obtain ⟨b', hb', _, _, hcell⟩ := hat (q / sz1) (q % sz1) hi (Nat.mod_lt _ hpos2)
    cases hb'
    obtain ⟨bb, bo, bs⟩ := b
    simp only at hbs; subst hbs
    rw [addr_add]
    simp only [Nat.add_assoc] at hcell
    rw [Nat.mul_comm, Nat.div_add_mod] at hcell
    exact hcell
  · cases he; cases hx
    exact ⟨_, 0, [], rfl, by simp, by simp, by simp, by simp⟩
  · rename_i k
    cases hx with
    | own _ sz1 xs' hk =>
      rw [hk] at he; cases he
      obtain ⟨arr, T, g1, g2, g3, g4, g5⟩ := h.objs k _ hk
      by_cases hpos : 0 < ys.length
      · have hm := List.getElem_mem hpos
        have hs1 : sz1 = sz := by rw [← (g4 _ hm).1, hsz _ hm]
        subst hs1
        have hle : ys.length * sz1 ≤ arr.size := by rw [g3]; exact Nat.mul_le_mul_right _ g2
        have hn : ∀ (i j : Nat) (x y : PV), ys[i]? = some x → x.cells[j]? = some y → ∃ u, (arr.toList.take (ys.length * sz1))[i * sz1 + j]? = some u ∧ Lies w (okB C β σ.look w) y u := by
          intro i j x y hx hy
          obtain ⟨u, hu, hL⟩ := g5 i j x y hx hy
          have hi := (List.getElem?_eq_some_iff.1 hx).1
          have hj : j < sz1 := by have := (List.getElem?_eq_some_iff.1 hy).1; rw [hsz x (List.mem_of_getElem? hx)] at this; exact this
          have hlt : i * sz1 + j < ys.length * sz1 := by
            have : (i + 1) * sz1 ≤ ys.length * sz1 := Nat.mul_le_mul_right _ hi
            rw [Nat.add_mul] at this; omega
          exact ⟨u, by simp [List.getElem?_take, hlt, hu], hL⟩
        have hlen : (arr.toList.take (ys.length * sz1)).length = ys.length * sz1 := by simp; omega
        refine ⟨_, _, arr.toList.take (ys.length * sz1), rfl, hlen, ones _ hlen (fun x hx => (g4 x hx).2) hn, hn, fun _ => ⟨_, rfl, fun q u hu => ?_⟩⟩
        rw [addr_add]
        simp only [List.getElem?_take] at hu
        split at hu
        · simp only [World.cell?, g1, Nat.zero_add]
          simpa using hu
        · cases hu
      · have hnil : ys = [] := List.eq_nil_of_length_eq_zero (by omega)
        subst hnil
        exact ⟨_, _, [], rfl, by simp, by simp, by simp, by simp⟩

theorem run_append_room' (t ty e T : TypeId) (i : TypeInfo) (ht : P.underlying t = some (.slice e)) (hi : P.info? e = some i) (g sLen sCap : Nat) (cur : Array Value) (hg : w.heap[g]? = some (.cells cur T (0, 0)))
    (ad : Option Addr) (m c : Nat) (news : List Value) (hl : news.length = m * i.size) (hnews : 0 < m → ∃ b, ad = some b ∧ ∀ j u, news[j]? = some u → w.cell? (b.add j) = some u) (h1 : ∀ u ∈ news, u.oneCell' = true)
    (hroom : sLen + m ≤ sCap) (hfit : sLen * i.size + news.length ≤ cur.size) :
    (Builtin.append_ #[t, t] ty #[.slice (some ⟨g, 0, none⟩) sLen sCap, .slice ad m c]).run P w =
      .ok (.slice (some ⟨g, 0, none⟩) (sLen + m) sCap) (w.setRow g (cur.toList.take (sLen * i.size) ++ news ++ cur.toList.drop (sLen * i.size + news.length)).toArray) := by
  have hf : (Builtin.firstCells i.size m (.slice ad m c)).run P w = .ok news.toArray w := by
    by_cases hm : 0 < m
    · obtain ⟨b, rfl, hb⟩ := hnews hm
      exact run_firstCells_some (P := P) w i.size m b m c news hl hb
    · have hm0 : m = 0 := by omega
      subst hm0
      have hn : news = [] := List.eq_nil_of_length_eq_zero (by simpa using hl)
      subst hn
      cases ad with
      | none => rfl
      | some b => simp [Builtin.firstCells, loadCells, loadCellsFrom]
  have hst := run_storeCells_at P g (sLen * i.size) T news 0 cur w hg (by simpa using hfit) h1
  simp only [Nat.add_zero] at hst
  simp [Builtin.append_, run_underlying ht, sizeOf, typeInfo, hi, Builtin.lenOf, hroom, hf, Addr.add_lit, hst]

theorem row_append_obj {w' : World} {ok ok' : Nat → Prop} {β' : Key → Blk} {lk' : Key → Option HObj} (hk : Keeps ok w w') (hok : ∀ b, ok b → ok' b) {sz : Nat} {xs ys : List PV} {olds news : Nat → Option Value} {arr : Array Value} {T : TypeId} {B : Blk}
    (hg : w'.heap[B.b]? = some (.cells arr T (0, 0))) (hc : (xs ++ ys).length ≤ B.c) (hs : arr.size = B.c * sz) (hx : ∀ x ∈ xs, x.cells.length = sz ∧ x.fine) (hy : ∀ x ∈ ys, x.cells.length = sz ∧ x.fine)
    (ho : ∀ q, q < xs.length * sz → arr[q]? = olds q) (hn : ∀ q, q < ys.length * sz → arr[xs.length * sz + q]? = news q)
    (holds : ∀ (i j : Nat) (x y : PV), xs[i]? = some x → x.cells[j]? = some y → ∃ u, olds (i * sz + j) = some u ∧ Lies w ok y u)
    (hnews : ∀ (i j : Nat) (x y : PV), ys[i]? = some x → x.cells[j]? = some y → ∃ u, news (i * sz + j) = some u ∧ Lies w ok y u) : HLies w' ok' β' lk' (.row sz (xs ++ ys)) B := by
  refine ⟨arr, T, hg, hc, hs, fun x h => ?_, fun i j x y hix hjy => ?_⟩
  · rcases List.mem_append.1 h with h | h
    · exact hx x h
    · exact hy x h
  · rw [List.getElem?_append] at hix
    split at hix
    · rename_i hlt
      have hj : j < sz := by have := (List.getElem?_eq_some_iff.1 hjy).1; rw [(hx x (List.mem_of_getElem? hix)).1] at this; exact this
      obtain ⟨u, hu, hL⟩ := holds i j x y hix hjy
      refine ⟨u, ?_, hL.mono hk hok⟩
      rw [ho, hu]
      have : (i + 1) * sz ≤ xs.length * sz := Nat.mul_le_mul_right _ hlt
      rw [Nat.add_mul] at this; omega
    · rename_i hge
      have hj : j < sz := by have := (List.getElem?_eq_some_iff.1 hjy).1; rw [(hy x (List.mem_of_getElem? hix)).1] at this; exact this
      have hlt := (List.getElem?_eq_some_iff.1 hix).1
      obtain ⟨u, hu, hL⟩ := hnews _ j x y hix hjy
      refine ⟨u, ?_, hL.mono hk hok⟩
      have e1 : i * sz = xs.length * sz + (i - xs.length) * sz := by rw [← Nat.add_mul]; congr 1; omega
      rw [show i * sz + j = xs.length * sz + ((i - xs.length) * sz + j) by omega, hn, hu]
      have : (i - xs.length + 1) * sz ≤ ys.length * sz := Nat.mul_le_mul_right _ hlt
      rw [Nat.add_mul] at this; omega

theorem execOp_append {c : Call} {x y : Operand} {t : TypeId} (ho : o.op = .call c) (hc : c.callee = .builtin .append) (hca : c.args = #[x, y]) (hct : c.argTypes = #[t, t]) {v : Value} {w' : World}
    (hr : (Builtin.append_ #[t, t] o.type #[a.eval x, a.eval y]).run P w = .ok v w') : (execOp a.eval o).run P w = .ok (.value v) w' := by
  simp only [execOp, ho, resolve, hc, hca, hct, List.map_toArray, List.map_cons, List.map_nil, Sem.run_bind, Sem.run_pure, Result.andThen_ok, invoke, builtin, hr]

theorem own_is {k : Key} {sz : Nat} {xs : List PV} {v : Value} {ok : Nat → Prop} {lk : Key → Option HObj} (hx : SLies w ok β lk (.own k) v) (hk : lk k = some (.row sz xs)) : v = .slice (some ⟨(β k).b, 0, none⟩) xs.length (β k).c := by
  cases hx with | own _ sz' xs' hk' => rw [hk] at hk'; cases hk'; rfl

theorem sound_append_own (h : RR C β σ a w) (hd : ∀ i, o.dst = some i → i < C.nt) {c : Call} {x y : Operand} {x' y' : Opd} {t e : TypeId} (ho : o.op = .call c) (hc : c.callee = .builtin .append) (hca : c.args = #[x, y]) (hct : c.argTypes = #[t, t])
    (ht : P.underlying t = some (.slice e)) {i : TypeInfo} {z : Value} {sz bytes : Nat} (hi : P.info? e = some i) (hz : i.zero = some z) (hs : i.size = sz) (hby : i.bytes = bytes) (hzs : z.cells.size = sz) (h0 : sz ≠ 0)
    (hx : agreeO x x' = true) (hy : agreeO y y' = true) {k : Key} {xs ys : List PV} (ex : σ.ev x' = .own k) (hk : σ.look k = some (.row sz xs)) (hke : ∀ i, k ≠ .ext i) (ey : σ.elems (σ.ev y') = some ys) (ha : allLen sz ys = true) (hb1 : 1 ≤ bytes) (hb : (xs.length + ys.length) * bytes ≤ 140737488355328) :
    StepOK P C (((σ.kill k).insAll [(k, .row sz (xs ++ ys))]).put o.dst (.own k)) o a w := by
  subst hs; subst hby
  have hxl := h.ev hx
  rw [ex] at hxl
  have hxe := own_is hxl hk
  obtain ⟨ad, cy, news, hye, n1, n2, n3, n4⟩ := elems_cells h (h.ev hy) ey ha h0
  obtain ⟨arr, T, g1, g2, g3, g4, g5⟩ := h.objs k _ hk
  have hcount : xs.length + ys.length ≤ 140737488355328 := by
    have : (xs.length + ys.length) * 1 ≤ (xs.length + ys.length) * i.bytes := Nat.mul_le_mul_left _ hb1
    omega
  have hyf : ∀ x ∈ ys, x.cells.length = i.size ∧ x.fine := fun x hx => ⟨allLen_spec ha x hx, fun q hq => by
    obtain ⟨i1, hi1⟩ := List.mem_iff_getElem?.1 hx
    obtain ⟨j1, hj1⟩ := List.mem_iff_getElem?.1 hq
    obtain ⟨u, hu, hL⟩ := n3 i1 j1 x q hi1 hj1
    exact one_of_oneCell hL (n2 u (List.mem_of_getElem? hu))⟩
  have own' : ∀ (β' : Key → Blk) (w' : World) (B : Blk), β' k = B → SLies w' (okB C β' ((σ.kill k).insAll [(k, .row i.size (xs ++ ys))]).look w') β' ((σ.kill k).insAll [(k, .row i.size (xs ++ ys))]).look (.own k) (.slice (some ⟨B.b, 0, none⟩) (xs.length + ys.length) B.c) := by
    intro β' w' B hB
    have := SLies.own (w := w') (ok := okB C β' ((σ.kill k).insAll [(k, .row i.size (xs ++ ys))]).look w') (β := β') (lk := ((σ.kill k).insAll [(k, .row i.size (xs ++ ys))]).look) k i.size (xs ++ ys) (by rw [St.look_ins]; simp)
    rw [hB, List.length_append] at this
    exact this
  have lo := h.lo k _ hk hke
  by_cases hroom : xs.length + ys.length ≤ (β k).c
  · -- in place
    have hfit : xs.length * i.size + news.length ≤ arr.size := by rw [n1, g3, ← Nat.add_mul]; exact Nat.mul_le_mul_right _ hroom
    have hr := run_append_room' (P := P) (w := w) t o.type e T i ht hi (β k).b xs.length (β k).c arr g1 ad ys.length cy news n1 n4 n2 hroom hfit
    rw [← hxe, ← hye] at hr
    have hrun := execOp_append (P := P) (a := a) (w := w) ho hc hca hct hr
    have hsp := fun q => splice_get arr news (xs.length * i.size) news.length q rfl hfit
    intro K hK Q
    refine Exists.elim (h.renew k hke (.row i.size (xs ++ ys)) (β k) (w.setRow (β k).b (arr.toList.take (xs.length * i.size) ++ news ++ arr.toList.drop (xs.length * i.size + news.length)).toArray) (by simp) lo
      (fun k2 o2 hne h2 e => hne (h.inj k2 k _ _ h2 hk e)) (fun b hb e => hb.2.1 k _ hk e.symm) (fun b _ hne => setRow_other w _ _ _ hne) (fun β' hok hkeep => ?_)) (fun β' hh => ?_)
    rotate_left
    · exact wp_value' hrun (hK β' _ _ (hh.2.put o.dst (.own k) _ hd (own' β' _ _ hh.1)))
    · refine row_append_obj hkeep hok (olds := fun q => arr[q]?) (news := fun q => news[q]?) (setRow_heap w _ arr _ T (0, 0) g1) (by simpa using hroom) ?_ g4 hyf (fun q hq => ?_) (fun q hq => ?_) g5 n3
      · simp only [List.size_toArray, List.length_append, List.length_take, List.length_drop, Array.length_toList]
        rw [← g3]; omega
      · rw [hsp, if_neg (by omega)]
      · rw [hsp, if_pos (by omega), Nat.add_sub_cancel_left]
  · -- a new block
    have hpos : 0 < ys.length := by omega
    obtain ⟨b, rfl, hcell⟩ := n4 hpos
    have hle : xs.length * i.size ≤ arr.size := by rw [g3]; exact Nat.mul_le_mul_right _ g2
    have hlo : (arr.toList.take (xs.length * i.size)).length = xs.length * i.size := by simp; omega
    have hr := run_append_grow (P := P) w t o.type e i z ht hi hz ⟨(β k).b, 0, none⟩ xs.length (β k).c (arr.toList.take (xs.length * i.size)) hlo (fun j u hu => by
      rw [addr_add]
      simp only [List.getElem?_take] at hu
      split at hu
      · simp only [World.cell?, g1, Nat.zero_add]; simpa using hu
      · cases hu) b ys.length cy news n1 hcell (by omega) (by omega) (growslice_fits (by omega) hb)
    obtain ⟨arr2, harr2⟩ : ∃ arr2, arr2 = (arr.toList.take (xs.length * i.size)).toArray ++ news.toArray ++ Builtin.zeroCells z.cells (grownCap w (xs.length + ys.length) (β k).c e - (xs.length + ys.length)) := ⟨_, rfl⟩
    rw [← hxe, ← hye, ← harr2] at hr
    have hrun := execOp_append (P := P) (a := a) (w := w) ho hc hca hct hr
    have hge := grownCap_ge w (xs.length + ys.length) (β k).c e
    intro K hK Q
    refine Exists.elim (h.renew k hke (.row i.size (xs ++ ys)) ⟨w.heap.size, grownCap w (xs.length + ys.length) (β k).c e⟩ (w.drew.alloc (.cells arr2 e)) (by rw [World.size_alloc]; exact Nat.le_succ _) h.size
      (fun k2 o2 hne h2 e => by have := h.blk_lt h2; simp at e; omega) (fun b hb e => by have := hb.1; simp at e; omega) (fun b hb _ => heap_alloc_old w.drew _ b hb) (fun β' hok hkeep => ?_)) (fun β' hh => ?_)
    rotate_left
    · exact wp_value' hrun (hK β' _ _ (hh.2.put o.dst (.own k) _ hd (own' β' _ _ hh.1)))
    · refine row_append_obj hkeep hok (olds := fun q => arr[q]?) (news := fun q => news[q]?) (heap_alloc_new w.drew _) (by simpa using hge) ?_ g4 hyf (fun q hq => ?_) (fun q hq => ?_) g5 n3
      · rw [harr2]
        simp only [Array.size_append, List.size_toArray, size_zeroCells, hzs, hlo, n1]
        rw [← Nat.add_mul, ← Nat.add_mul]; congr 1; omega
      · rw [harr2, Array.append_assoc, Array.getElem?_append, if_pos (by simp only [List.size_toArray]; omega)]
        simp [List.getElem?_take, hq]
      · rw [harr2, Array.append_assoc, Array.getElem?_append, if_neg (by simp only [List.size_toArray]; omega), Array.getElem?_append, if_pos (by simp only [List.size_toArray, hlo]; omega)]
        simp only [List.size_toArray, hlo, List.getElem?_toArray]
        congr 1; omega

theorem sound_append_nil (h : RR C β σ a w) (hd : ∀ i, o.dst = some i → i < C.nt) {c : Call} {x y : Operand} {x' y' : Opd} {t e : TypeId} (ho : o.op = .call c) (hc : c.callee = .builtin .append) (hca : c.args = #[x, y]) (hct : c.argTypes = #[t, t])
    (ht : P.underlying t = some (.slice e)) {i : TypeInfo} {z : Value} {sz bytes : Nat} (hi : P.info? e = some i) (hz : i.zero = some z) (hs : i.size = sz) (hby : i.bytes = bytes) (hzs : z.cells.size = sz) (h0 : sz ≠ 0)
    (hx : agreeO x x' = true) (hy : agreeO y y' = true) {k : Key} {ys : List PV} (ex : σ.ev x' = .nils) (hke : ∀ i, k ≠ .ext i) (ey : σ.elems (σ.ev y') = some ys) (hpos : 0 < ys.length) (ha : allLen sz ys = true) (hb1 : 1 ≤ bytes) (hb : ys.length * bytes ≤ 140737488355328) :
    StepOK P C (((σ.kill k).insAll [(k, .row sz ys)]).put o.dst (.own k)) o a w := by
  subst hs; subst hby
  have hxl := h.ev hx
  rw [ex] at hxl
  obtain ⟨ax, hxe⟩ : ∃ ax, a.eval x = .slice ax 0 0 := by generalize a.eval x = xv at hxl; cases hxl; exact ⟨_, rfl⟩
  obtain ⟨ad, cy, news, hye, n1, n2, n3, n4⟩ := elems_cells h (h.ev hy) ey ha h0
  have hcount : ys.length ≤ 140737488355328 := by
    have : ys.length * 1 ≤ ys.length * i.bytes := Nat.mul_le_mul_left _ hb1
    omega
  have hyf : ∀ x ∈ ys, x.cells.length = i.size ∧ x.fine := fun x hx => ⟨allLen_spec ha x hx, fun q hq => by
    obtain ⟨i1, hi1⟩ := List.mem_iff_getElem?.1 hx
    obtain ⟨j1, hj1⟩ := List.mem_iff_getElem?.1 hq
    obtain ⟨u, hu, hL⟩ := n3 i1 j1 x q hi1 hj1
    exact one_of_oneCell hL (n2 u (List.mem_of_getElem? hu))⟩
  obtain ⟨b, rfl, hcell⟩ := n4 hpos
  have hr : (Builtin.append_ #[t, t] o.type #[.slice ax 0 0, .slice (some b) ys.length cy]).run P w =
      .ok (.slice (some ⟨w.heap.size, 0, none⟩) ys.length (grownCap w ys.length 0 e)) (w.drew.alloc (.cells (news.toArray ++ Builtin.zeroCells z.cells (grownCap w ys.length 0 e - ys.length)) e)) := by
    cases ax with
    | none => exact run_append_nil (P := P) w t o.type e i z ht hi hz b ys.length cy news n1 hcell hpos (by omega) (by omega)
    | some bx =>
      have := run_append_grow (P := P) w t o.type e i z ht hi hz bx 0 0 [] (by simp) (by simp) b ys.length cy news n1 hcell (by omega) (by omega) (by rw [Nat.zero_add, nextslicecap_zero hpos]; omega)
      simpa using this
  obtain ⟨arr2, harr2⟩ : ∃ arr2, arr2 = news.toArray ++ Builtin.zeroCells z.cells (grownCap w ys.length 0 e - ys.length) := ⟨_, rfl⟩
  rw [← hxe, ← hye, ← harr2] at hr
  have hrun := execOp_append (P := P) (a := a) (w := w) ho hc hca hct hr
  have hge := grownCap_ge w ys.length 0 e
  intro K hK Q
  refine Exists.elim (h.renew k hke (.row i.size ys) ⟨w.heap.size, grownCap w ys.length 0 e⟩ (w.drew.alloc (.cells arr2 e)) (by rw [World.size_alloc]; exact Nat.le_succ _) h.size
    (fun k2 o2 hne h2 e => by have := h.blk_lt h2; simp at e; omega) (fun b hb e => by have := hb.1; simp at e; omega) (fun b hb _ => heap_alloc_old w.drew _ b hb) (fun β' hok hkeep => ?_)) (fun β' hh => ?_)
  rotate_left
  · refine wp_value' hrun (hK β' _ _ (hh.2.put o.dst (.own k) _ hd ?_))
    have := SLies.own (w := w.drew.alloc (.cells arr2 e)) (ok := okB C β' ((σ.kill k).insAll [(k, .row i.size ys)]).look (w.drew.alloc (.cells arr2 e))) (β := β') (lk := ((σ.kill k).insAll [(k, .row i.size ys)]).look) k i.size ys (by rw [St.look_ins]; simp)
    rw [hh.1] at this
    exact this
  · have := row_append_obj (w := w) (w' := w.drew.alloc (.cells arr2 e)) (β' := β') (lk' := ((σ.kill k).insAll [(k, .row i.size ys)]).look) hkeep hok (xs := []) (ys := ys) (olds := fun _ => none) (news := fun q => news[q]?) (B := ⟨w.heap.size, grownCap w ys.length 0 e⟩) (heap_alloc_new w.drew _) (by simpa using hge) ?_ (by simp) hyf (by simp) (fun q hq => ?_) (by simp) n3
    · exact this
    · rw [harr2]
      simp only [Array.size_append, List.size_toArray, size_zeroCells, hzs, n1]
      rw [← Nat.add_mul]; congr 1; omega
    · simp only [List.length_nil, Nat.zero_mul, Nat.zero_add]
      rw [harr2, Array.getElem?_append, if_pos (by simp only [List.size_toArray]; omega)]
      simp

theorem sound_append_none (h : RR C β σ a w) (hd : ∀ i, o.dst = some i → i < C.nt) {c : Call} {x y : Operand} {x' y' : Opd} {t e : TypeId} (ho : o.op = .call c) (hc : c.callee = .builtin .append) (hca : c.args = #[x, y]) (hct : c.argTypes = #[t, t])
    (ht : P.underlying t = some (.slice e)) {i : TypeInfo} (hi : P.info? e = some i) (hx : agreeO x x' = true) (hy : agreeO y y' = true) (ex : σ.ev x' = .nils) (ey : σ.elems (σ.ev y') = some []) : StepOK P C (σ.put o.dst .nils) o a w := by
  have hxl := h.ev hx
  rw [ex] at hxl
  obtain ⟨ax, hxe⟩ : ∃ ax, a.eval x = .slice ax 0 0 := by generalize a.eval x = xv at hxl; cases hxl; exact ⟨_, rfl⟩
  obtain ⟨ad, cy, hye⟩ := elems_val h (h.ev hy) ey
  have hr : (Builtin.append_ #[t, t] o.type #[a.eval x, a.eval y]).run P w = .ok (.slice ax 0 0) w := by
    rw [hxe, hye]
    have hf : (Builtin.firstCells i.size 0 (.slice ad 0 cy)).run P w = .ok #[] w := by
      cases ad with
      | none => rfl
      | some b => simp [Builtin.firstCells, loadCells, loadCellsFrom]
    cases ax <;> simp [Builtin.append_, run_underlying ht, sizeOf, typeInfo, hi, Builtin.lenOf, hf, storeCells]
  have hrun := execOp_append (P := P) (a := a) (w := w) ho hc hca hct hr
  intro K hK Q
  exact wp_value' hrun (hK β _ _ (h.put o.dst .nils _ hd (.nils _)))

end
end Go.Av
