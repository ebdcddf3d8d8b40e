/- Appends. -/
import Derived.Test.YtkcilagjhieapaaBv9
set_option linter.unusedVariables false
set_option linter.unusedSimpArgs false
namespace Go.Av
section
variable {P : Program} {C : Ctx} {β : Key → Blk} {σ : St} {a : Act} {w : World} {o : Oper}

/-- An object is given up; another one, under a name, takes its place: in its block, in a new one, or in none. -/
theorem RR.move (h : RR C β σ a w) (k k2 : Key) (hk2 : ∀ i, k2 ≠ .ext i) (o1 : HObj) (B : Blk) (w' : World) (hsz : w.heap.size ≤ w'.heap.size) (hB : ∀ b, B.b = some b → C.w0.heap.size ≤ b ∨ C.lent b)
    (hB2 : ∀ k3 o3 b, k3 ≠ k → k3 ≠ k2 → σ.look k3 = some o3 → (β k3).b = some b → B.b ≠ some b) (hB3 : ∀ b, okB C β σ.look w b → B.b ≠ some b) (hfr : ∀ b, b < w.heap.size → (∀ o, σ.look k = some o → (β k).b ≠ some b) → w'.heap[b]? = w.heap[b]?)
    (hobj : ∀ β' : Key → Blk, (∀ b, okB C β σ.look w b → okB C β' (((σ.kill k).kill k2).insAll [(k2, o1)]).look w' b) → (Keeps (okB C β σ.look w) w w') →
      HLies w' (okB C β' (((σ.kill k).kill k2).insAll [(k2, o1)]).look w') β' (((σ.kill k).kill k2).insAll [(k2, o1)]).look o1 B) (hq : Quiet w w') :
    ∃ β', β' k2 = B ∧ RR C β' (((σ.kill k).kill k2).insAll [(k2, o1)]) a w' := by
  refine ⟨fun k' => if k' = k2 then B else β k', by simp, ?_⟩
  generalize hβ : (fun k' => if k' = k2 then B else β k') = β'
  have b1 : ∀ k', k' ≠ k2 → β' k' = β k' := fun k' hne => by rw [← hβ]; simp [hne]
  have b2 : β' k2 = B := by rw [← hβ]; simp
  have hl : ∀ k', k' ≠ k2 → (((σ.kill k).kill k2).insAll [(k2, o1)]).look k' = if k' = k then none else ((σ.look k').map (HObj.kill k)).map (HObj.kill k2) := fun k' hne => by
    rw [St.look_ins, if_neg (fun e => hne e.symm), St.look_kill, if_neg hne, St.look_kill]
    split <;> rfl
  have hlk : (((σ.kill k).kill k2).insAll [(k2, o1)]).look k2 = some o1 := by rw [St.look_ins]; simp
  have hfor : ∀ k' o', k' ≠ k2 → k' ≠ k → σ.look k' = some o' → (((σ.kill k).kill k2).insAll [(k2, o1)]).look k' = some ((o'.kill k).kill k2) := fun k' o' h1 h2 h3 => by rw [hl k' h1, if_neg h2, h3]; rfl
  have hback : ∀ k' o', k' ≠ k2 → (((σ.kill k).kill k2).insAll [(k2, o1)]).look k' = some o' → k' ≠ k ∧ ∃ o2, σ.look k' = some o2 ∧ o' = (o2.kill k).kill k2 := fun k' o' hne h' => by
    rw [hl k' hne] at h'
    by_cases e : k' = k
    · rw [if_pos e] at h'; cases h'
    · rw [if_neg e] at h'
      simp only [Option.map_eq_some_iff] at h'
      obtain ⟨o2, ⟨o3, h1, rfl⟩, h2⟩ := h'
      exact ⟨e, o3, h1, h2.symm⟩
  have hok : ∀ b, okB C β σ.look w b → okB C β' (((σ.kill k).kill k2).insAll [(k2, o1)]).look w' b := by
    intro b hb
    refine ⟨by have := hb.1; omega, fun k' o' h' => ?_, hb.2.2⟩
    by_cases e : k' = k2
    · subst e; rw [b2]; exact hB3 b hb
    · obtain ⟨_, o2, h2, _⟩ := hback k' o' e h'
      rw [b1 k' e]; exact hb.2.1 k' o2 h2
  have hkeep : Keeps (okB C β σ.look w) w w' := by
    intro b hb off u hu
    simp only [World.cell?, hfr b hb.1 (fun o ho e => hb.2.1 k o ho e)]
    exact hu
  have mono : ∀ {x : SV} {v : Value}, SLies w (okB C β σ.look w) β σ.look x v → SLies w' (okB C β' (((σ.kill k).kill k2).insAll [(k2, o1)]).look w') β' (((σ.kill k).kill k2).insAll [(k2, o1)]).look ((x.kill k).kill k2) v := by
    intro x v hx
    rcases SV.kill_or k2 (x.kill k) with e | ⟨e, hn2⟩
    · rw [e]; exact .dead v
    · rw [e]
      rcases SV.kill_or k x with e' | ⟨e', hn⟩
      · rw [e']; exact .dead v
      · rw [e'] at hn2 ⊢
        refine hx.mono' hkeep hok (fun k' o' hk' hl' => ?_)
        have hne : k' ≠ k := fun e => by subst e; rw [hn] at hk'; cases hk'
        have hne2 : k' ≠ k2 := fun e => by subst e; rw [hn2] at hk'; cases hk'
        exact ⟨_, hfor k' o' hne2 hne hl', HObj.sim_trans (o'.kill_sim k) (HObj.kill_sim k2 _), b1 k' hne2⟩
  refine ⟨h.tsz, h.dfs, ?_, ?_, ?_, ?_, ?_, Nat.le_trans h.size hsz, ?_, h.quiet.trans hq⟩
  · intro k1 k3 o2 o3 b h1 h2 e1 e2
    by_cases q1 : k1 = k2
    · by_cases q2 : k3 = k2
      · rw [q1, q2]
      · obtain ⟨hne, o4, h4, _⟩ := hback k3 _ q2 h2
        rw [q1, b2] at e1; rw [b1 k3 q2] at e2
        exact absurd e1 (hB2 k3 o4 b hne q2 h4 e2)
    · obtain ⟨hne, o4, h4, _⟩ := hback k1 _ q1 h1
      by_cases q2 : k3 = k2
      · rw [q2, b2] at e2; rw [b1 k1 q1] at e1
        exact absurd e2 (hB2 k1 o4 b hne q1 h4 e1)
      · obtain ⟨_, o5, h5, _⟩ := hback k3 _ q2 h2
        rw [b1 k1 q1] at e1; rw [b1 k3 q2] at e2
        exact h.inj k1 k3 _ _ b h4 h5 e1 e2
  · intro k' o' h'
    by_cases e : k' = k2
    · subst e; rw [hlk] at h'; cases h'; rw [b2]; exact hobj β' hok hkeep
    · obtain ⟨hne, o2, h2, rfl⟩ := hback k' o' e h'
      have hb := h.objs k' o2 h2
      have hblk : ∀ b, (β k').b = some b → w'.heap[b]? = w.heap[b]? := fun b hb' => hfr b (h.blk_lt h2 hb') (fun o ho e' => hne (h.inj k' k _ _ b h2 ho hb' e'))
      rw [b1 k' e]
      cases o2 with
      | box cs =>
        obtain ⟨b, arr, T, e0, e1, e2, e3, e4⟩ := hb
        refine ⟨b, arr, T, e0, (hblk b e0).trans e1, by simpa using e2, e3, fun j x u hx hu => ?_⟩
        simp only [List.getElem?_map, Option.map_eq_some_iff] at hx
        obtain ⟨x', ⟨x2, hx', rfl⟩, rfl⟩ := hx
        exact mono (e4 j x2 u hx' hu)
      | row sz xs =>
        rcases hb with hb | ⟨b, arr, T, e0, e1, e2, e3, e4, e5⟩
        · exact .inl hb
        · refine .inr ⟨b, arr, T, e0, (hblk b e0).trans e1, e2, e3, e4, fun i j x y hx hy => ?_⟩
          obtain ⟨u, hu, hl⟩ := e5 i j x y hx hy
          exact ⟨u, hu, hl.mono hkeep hok⟩
      | map kk es =>
        obtain ⟨b, ents, clock, e0, e1, e2⟩ := hb
        exact ⟨b, ents, clock, e0, (hblk b e0).trans e1, e2.mono hkeep hok⟩
  · intro k' o' b h' hx
    by_cases e : k' = k2
    · subst e; rw [b2] at hx; exact hB b hx
    · obtain ⟨_, o2, h2, _⟩ := hback k' o' e h'
      rw [b1 k' e] at hx; exact h.lo k' o2 b h2 hx
  · intro i o' h'
    obtain ⟨_, o2, h2, rfl⟩ := hback _ o' (fun e => hk2 i e.symm) h'
    obtain ⟨o0, g1, g2, g3⟩ := h.ext2 i o2 h2
    rw [b1 _ (fun e => hk2 i e.symm)]
    exact ⟨o0, g1, HObj.sim_trans g2 (HObj.sim_trans (o2.kill_sim k) (HObj.kill_sim k2 _)), g3⟩
  · intro t
    rw [St.get_insAll, St.get_kill, St.get_kill]
    exact mono (h.slots t)
  · intro b hb hx
    have hs := h.size
    rw [hfr b (by omega) (fun o ho e => ?_)]
    · exact h.frame b hb hx
    · rcases h.lo k o b ho e with h1 | h1
      · omega
      · exact hx h1

theorem SV.kill_kill (k : Key) (x : SV) : (x.kill k).kill k = x.kill k := by
  unfold SV.kill
  cases h : x.names k <;> simp [h, SV.names]

theorem kill_kill (k : Key) (o : HObj) : (o.kill k).kill k = o.kill k := by
  cases o with
  | box cs =>
    simp only [HObj.kill, List.map_map]
    congr 1
    exact List.map_congr_left (fun v _ => SV.kill_kill k v)
  | row _ _ => rfl
  | map _ _ => rfl

theorem look_kill2 (k : Key) : ∀ k', ((σ.kill k).kill k).look k' = (σ.kill k).look k' := by
  intro k'
  rw [St.look_kill, St.look_kill]
  by_cases e : k' = k
  · simp [e]
  · simp only [e, if_false]
    cases σ.look k' with
    | none => rfl
    | some o => simp [kill_kill]

theorem get_kill2 (k : Key) : ∀ t, ((σ.kill k).kill k).get t = (σ.kill k).get t := by
  intro t
  rw [St.get_kill, St.get_kill, SV.kill_kill]

theorem RR.congr (h : RR C β σ a w) {σ' : St} (hg : ∀ t, σ'.get t = σ.get t) (hl : ∀ k, σ'.look k = σ.look k) : RR C β σ' a w := by
  have e : σ'.look = σ.look := funext hl
  refine h.slots_of e (fun t => ?_)
  rw [hg]; exact h.slots t

/-- The elements of a slice, cell by cell. -/
theorem elems_cells (h : RR C β σ a w) {x : SV} {v : Value} (hx : SLies w (okB C β σ.look w) β σ.look x v) {ys : List PV} (he : σ.elems x = some ys) {sz : Nat} (ha : allLen sz ys = true) (h0 : sz ≠ 0) :
    ∃ (ad : Option Addr) (c : Nat) (news : List Value), v = .slice ad ys.length c ∧ news.length = ys.length * sz ∧ (∀ u ∈ news, u.oneCell' = true) ∧
      (∀ (i j : Nat) (x y : PV), ys[i]? = some x → x.cells[j]? = some y → ∃ u, news[i * sz + j]? = some u ∧ Lies w (okB C β σ.look w) y u) ∧
      (0 < ys.length → ∃ b : Addr, ad = some b ∧ ∀ (j : Nat) (u : Value), news[j]? = some u → w.cell? (b.add j) = some u) := by
  have hsz := allLen_spec ha
  have ones : ∀ (news : List Value), news.length = ys.length * sz → (∀ x ∈ ys, x.fine) → (∀ (i j : Nat) (x y : PV), ys[i]? = some x → x.cells[j]? = some y → ∃ u, news[i * sz + j]? = some u ∧ Lies w (okB C β σ.look w) y u) → ∀ u ∈ news, u.oneCell' = true := by
    intro news hl hf hn u hu
    obtain ⟨q, hq⟩ := List.mem_iff_getElem?.1 hu
    have hql := (List.getElem?_eq_some_iff.1 hq).1
    have hpos : 0 < sz := by omega
    have hi : q / sz < ys.length := (Nat.div_lt_iff_lt_mul hpos).2 (by omega)
    have hj : q % sz < sz := Nat.mod_lt _ hpos
    have hm := List.getElem_mem hi
    have hjl : q % sz < (ys[q / sz]).cells.length := by rw [hsz _ hm]; exact hj
    obtain ⟨u', hu', hL⟩ := hn (q / sz) (q % sz) _ _ (List.getElem?_eq_getElem hi) (List.getElem?_eq_getElem hjl)
    rw [Nat.mul_comm, Nat.div_add_mod, hq] at hu'
    cases hu'
    exact hL.oneCell (hf _ hm _ (List.getElem_mem hjl))
  cases x <;> simp only [St.elems] at he <;> try (cases he; done)
  · rename_i p
    cases p <;> simp only at he <;> try (cases he; done)
    cases he
    obtain ⟨ad, c, sz1, us, rfl, hc, hsz1, h1, hat, hp, hlie⟩ := lies_slice (slies_pv hx)
    let news := (List.range (ys.length * sz)).map fun q => us (q / sz) (q % sz)
    have hn : ∀ (i j : Nat) (x y : PV), ys[i]? = some x → x.cells[j]? = some y → ∃ u, news[i * sz + j]? = some u ∧ Lies w (okB C β σ.look w) y u := by
      intro i j x y hx hy
      have hi := (List.getElem?_eq_some_iff.1 hx).1
      have hj : j < sz := by have := (List.getElem?_eq_some_iff.1 hy).1; rw [hsz x (List.mem_of_getElem? hx)] at this; exact this
      obtain ⟨r1, r2⟩ := row_cell (i := i) hj
      have hlt : i * sz + j < ys.length * sz := by
        have : (i + 1) * sz ≤ ys.length * sz := Nat.mul_le_mul_right _ hi
        rw [Nat.add_mul] at this; omega
      exact ⟨us i j, by simp [news, hlt, r1, r2], hlie i j x y hx hy⟩
    refine ⟨ad, c, news, rfl, by simp [news], ones news (by simp [news]) h1 hn, hn, fun hpos => ?_⟩
    obtain ⟨b, rfl, hbs⟩ := hp hpos
    refine ⟨b, rfl, fun q u hu => ?_⟩
    simp only [news, List.getElem?_map, Option.map_eq_some_iff] at hu
    obtain ⟨q', hq', rfl⟩ := hu
    obtain ⟨hlt, rfl⟩ := List.getElem?_eq_some_iff.1 hq'
    simp only [List.length_range] at hlt
    simp only [List.getElem_range]
    have hpos2 : 0 < sz := by omega
    have hi : q / sz < ys.length := (Nat.div_lt_iff_lt_mul hpos2).2 hlt
    have hs1 : sz1 = sz := by rw [← hsz1 _ (List.getElem_mem hi), hsz _ (List.getElem_mem hi)]
    subst hs1
    obtain ⟨b', hb', _, _, hcell⟩ := hat (q / sz1) (q % sz1) hi (Nat.mod_lt _ hpos2)
    cases hb'
    obtain ⟨bb, bo, bs⟩ := b
    simp only at hbs; subst hbs
    rw [addr_add]
    simp only [Nat.add_assoc] at hcell
    rw [Nat.mul_comm, Nat.div_add_mod] at hcell
    exact hcell
  · cases he; cases hx
    exact ⟨_, 0, [], rfl, by simp, by simp, by simp, by simp⟩
  · rename_i k
    cases hx with
    | ownN _ sz1 ad hk hb => rw [hk] at he; cases he; exact ⟨_, 0, [], rfl, by simp, by simp, by simp, by simp⟩
    | own _ sz1 xs' b hk hb =>
      rw [hk] at he; cases he
      obtain ⟨b', arr, T, g0, g1, g2, g3, g4, g5⟩ := (h.objs k _ hk).resolve_left (fun e => by rw [hb] at e; cases e.1)
      rw [hb] at g0; cases g0
      by_cases hpos : 0 < ys.length
      · have hm := List.getElem_mem hpos
        have hs1 : sz1 = sz := by rw [← (g4 _ hm).1, hsz _ hm]
        subst hs1
        have hle : ys.length * sz1 ≤ arr.size := by rw [g3]; exact Nat.mul_le_mul_right _ g2
        have hn : ∀ (i j : Nat) (x y : PV), ys[i]? = some x → x.cells[j]? = some y → ∃ u, (arr.toList.take (ys.length * sz1))[i * sz1 + j]? = some u ∧ Lies w (okB C β σ.look w) y u := by
          intro i j x y hx hy
          obtain ⟨u, hu, hL⟩ := g5 i j x y hx hy
          have hi := (List.getElem?_eq_some_iff.1 hx).1
          have hj : j < sz1 := by have := (List.getElem?_eq_some_iff.1 hy).1; rw [hsz x (List.mem_of_getElem? hx)] at this; exact this
          have hlt : i * sz1 + j < ys.length * sz1 := by
            have : (i + 1) * sz1 ≤ ys.length * sz1 := Nat.mul_le_mul_right _ hi
            rw [Nat.add_mul] at this; omega
          exact ⟨u, by simp [List.getElem?_take, hlt, hu], hL⟩
        have hlen : (arr.toList.take (ys.length * sz1)).length = ys.length * sz1 := by simp; omega
        refine ⟨_, _, arr.toList.take (ys.length * sz1), rfl, hlen, ones _ hlen (fun x hx => (g4 x hx).2) hn, hn, fun _ => ⟨_, rfl, fun q u hu => ?_⟩⟩
        rw [addr_add]
        simp only [List.getElem?_take] at hu
        split at hu
        · simp only [World.cell?, g1, Nat.zero_add]
          simpa using hu
        · cases hu
      · have hnil : ys = [] := List.eq_nil_of_length_eq_zero (by omega)
        subst hnil
        exact ⟨_, _, [], rfl, by simp, by simp, by simp, by simp⟩

theorem run_append_room' (t ty e T : TypeId) (i : TypeInfo) (ht : P.underlying t = some (.slice e)) (hi : P.info? e = some i) (g sLen sCap : Nat) (cur : Array Value) (hg : w.heap[g]? = some (.cells cur T (0, 0)))
    (ad : Option Addr) (m c : Nat) (news : List Value) (hl : news.length = m * i.size) (hnews : 0 < m → ∃ b, ad = some b ∧ ∀ j u, news[j]? = some u → w.cell? (b.add j) = some u) (h1 : ∀ u ∈ news, u.oneCell' = true)
    (hroom : sLen + m ≤ sCap) (hfit : sLen * i.size + news.length ≤ cur.size) :
    (Builtin.append_ #[t, t] ty #[.slice (some ⟨g, 0, none⟩) sLen sCap, .slice ad m c]).run P w =
      .ok (.slice (some ⟨g, 0, none⟩) (sLen + m) sCap) (w.setRow g (cur.toList.take (sLen * i.size) ++ news ++ cur.toList.drop (sLen * i.size + news.length)).toArray) := by
  have hf : (Builtin.firstCells i.size m (.slice ad m c)).run P w = .ok news.toArray w := by
    by_cases hm : 0 < m
    · obtain ⟨b, rfl, hb⟩ := hnews hm
      exact run_firstCells_some (P := P) w i.size m b m c news hl hb
    · have hm0 : m = 0 := by omega
      subst hm0
      have hn : news = [] := List.eq_nil_of_length_eq_zero (by simpa using hl)
      subst hn
      cases ad with
      | none => rfl
      | some b => simp [Builtin.firstCells, loadCells, loadCellsFrom]
  have hst := run_storeCells_at P g (sLen * i.size) T news 0 cur w hg (by simpa using hfit) h1
  simp only [Nat.add_zero] at hst
  simp [Builtin.append_, run_underlying ht, sizeOf, typeInfo, hi, Builtin.lenOf, hroom, hf, Addr.add_lit, hst]

theorem row_append_obj {w' : World} {ok ok' : Nat → Prop} {β' : Key → Blk} {lk' : Key → Option HObj} (hk : Keeps ok w w') (hok : ∀ b, ok b → ok' b) {sz : Nat} {xs ys : List PV} {olds news : Nat → Option Value} {arr : Array Value} {T : TypeId} {B : Blk} {b : Nat} (hB : B.b = some b)
    (hg : w'.heap[b]? = some (.cells arr T (0, 0))) (hc : (xs ++ ys).length ≤ B.c) (hs : arr.size = B.c * sz) (hx : ∀ x ∈ xs, x.cells.length = sz ∧ x.fine) (hy : ∀ x ∈ ys, x.cells.length = sz ∧ x.fine)
    (ho : ∀ q, q < xs.length * sz → arr[q]? = olds q) (hn : ∀ q, q < ys.length * sz → arr[xs.length * sz + q]? = news q)
    (holds : ∀ (i j : Nat) (x y : PV), xs[i]? = some x → x.cells[j]? = some y → ∃ u, olds (i * sz + j) = some u ∧ Lies w ok y u)
    (hnews : ∀ (i j : Nat) (x y : PV), ys[i]? = some x → x.cells[j]? = some y → ∃ u, news (i * sz + j) = some u ∧ Lies w ok y u) : HLies w' ok' β' lk' (.row sz (xs ++ ys)) B := by
  refine .inr ⟨b, arr, T, hB, hg, hc, hs, fun x h => ?_, fun i j x y hix hjy => ?_⟩
  · rcases List.mem_append.1 h with h | h
    · exact hx x h
    · exact hy x h
  · rw [List.getElem?_append] at hix
    split at hix
    · rename_i hlt
      have hj : j < sz := by have := (List.getElem?_eq_some_iff.1 hjy).1; rw [(hx x (List.mem_of_getElem? hix)).1] at this; exact this
      obtain ⟨u, hu, hL⟩ := holds i j x y hix hjy
      refine ⟨u, ?_, hL.mono hk hok⟩
      rw [ho, hu]
      have : (i + 1) * sz ≤ xs.length * sz := Nat.mul_le_mul_right _ hlt
      rw [Nat.add_mul] at this; omega
    · rename_i hge
      have hj : j < sz := by have := (List.getElem?_eq_some_iff.1 hjy).1; rw [(hy x (List.mem_of_getElem? hix)).1] at this; exact this
      have hlt := (List.getElem?_eq_some_iff.1 hix).1
      obtain ⟨u, hu, hL⟩ := hnews _ j x y hix hjy
      refine ⟨u, ?_, hL.mono hk hok⟩
      have e1 : i * sz = xs.length * sz + (i - xs.length) * sz := by rw [← Nat.add_mul]; congr 1; omega
      rw [show i * sz + j = xs.length * sz + ((i - xs.length) * sz + j) by omega, hn, hu]
      have : (i - xs.length + 1) * sz ≤ ys.length * sz := Nat.mul_le_mul_right _ hlt
      rw [Nat.add_mul] at this; omega

theorem execOp_append {c : Call} {x y : Operand} {t : TypeId} (ho : o.op = .call c) (hc : c.callee = .builtin .append) (hca : c.args = #[x, y]) (hct : c.argTypes = #[t, t]) {v : Value} {w' : World}
    (hr : (Builtin.append_ #[t, t] o.type #[a.eval x, a.eval y]).run P w = .ok v w') : (execOp a.eval o).run P w = .ok (.value v) w' := by
  simp only [execOp, ho, resolve, hc, hca, hct, List.map_toArray, List.map_cons, List.map_nil, Sem.run_bind, Sem.run_pure, Result.andThen_ok, invoke, builtin, hr]

/-- A new block, or none, for some elements behind an empty row. -/
theorem run_append_fresh {t ty e : TypeId} {i : TypeInfo} {z : Value} (ht : P.underlying t = some (.slice e)) (hi : P.info? e = some i) (hz : i.zero = some z) (ax ad : Option Addr) {m cy : Nat} {news : List Value} (hl : news.length = m * i.size)
    (hn : 0 < m → ∃ b, ad = some b ∧ ∀ j u, news[j]? = some u → w.cell? (b.add j) = some u) (hb : m * i.bytes ≤ 140737488355328) (hb1 : 1 ≤ i.bytes) (hpos : 0 < m) :
    (Builtin.append_ #[t, t] ty #[.slice ax 0 0, .slice ad m cy]).run P w =
      .ok (.slice (some ⟨w.heap.size, 0, none⟩) m (grownCap w m 0 e)) (w.drew.alloc (.cells (news.toArray ++ Builtin.zeroCells z.cells (grownCap w m 0 e - m)) e)) := by
  have hcount : m ≤ 140737488355328 := by
    have : m * 1 ≤ m * i.bytes := Nat.mul_le_mul_left _ hb1
    omega
  obtain ⟨b, rfl, hcell⟩ := hn hpos
  cases ax with
  | none => exact run_append_nil (P := P) w t ty e i z ht hi hz b m cy news hl hcell hpos (by omega) (by omega)
  | some bx =>
    have := run_append_grow (P := P) w t ty e i z ht hi hz bx 0 0 [] (by simp) (by simp) b m cy news hl hcell (by omega) (by omega) (by rw [Nat.zero_add, nextslicecap_zero hpos]; omega)
    simpa using this

theorem run_append_zero {t ty e : TypeId} {i : TypeInfo} (ht : P.underlying t = some (.slice e)) (hi : P.info? e = some i) (ax ad : Option Addr) (cy : Nat) :
    (Builtin.append_ #[t, t] ty #[.slice ax 0 0, .slice ad 0 cy]).run P w = .ok (.slice ax 0 0) w := by
  have hf : (Builtin.firstCells i.size 0 (.slice ad 0 cy)).run P w = .ok #[] w := by
    cases ad with
    | none => rfl
    | some b => simp [Builtin.firstCells, loadCells, loadCellsFrom]
  cases ax <;> simp [Builtin.append_, run_underlying ht, sizeOf, typeInfo, hi, Builtin.lenOf, hf, storeCells]

/-- Elements behind an empty row that has no room: a row of one's own, under any name; the name k is given up. -/
theorem sound_append_fresh (h : RR C β σ a w) (hd : ∀ i, o.dst = some i → i < C.nt) {c : Call} {x y : Operand} {y' : Opd} {t e : TypeId} (ho : o.op = .call c) (hc : c.callee = .builtin .append) (hca : c.args = #[x, y]) (hct : c.argTypes = #[t, t])
    (ht : P.underlying t = some (.slice e)) {i : TypeInfo} {z : Value} {sz bytes : Nat} (hi : P.info? e = some i) (hz : i.zero = some z) (hs : i.size = sz) (hby : i.bytes = bytes) (hzs : z.cells.size = sz) (h0 : sz ≠ 0)
    (hy : agreeO y y' = true) {k k2 : Key} {ys : List PV} {ax : Option Addr} (hxe : a.eval x = .slice ax 0 0) (hk2 : ∀ i, k2 ≠ .ext i) (ey : σ.elems (σ.ev y') = some ys) (ha : allLen sz ys = true) (hb1 : 1 ≤ bytes) (hb : ys.length * bytes ≤ 140737488355328) :
    StepOK P C ((((σ.kill k).kill k2).insAll [(k2, .row sz ys)]).put o.dst (.own k2)) o a w := by
  subst hs; subst hby
  obtain ⟨ad, cy, news, hye, n1, n2, n3, n4⟩ := elems_cells h (h.ev hy) ey ha h0
  have hyf : ∀ x ∈ ys, x.cells.length = i.size ∧ x.fine := fun x hx => ⟨allLen_spec ha x hx, fun q hq => by
    obtain ⟨i1, hi1⟩ := List.mem_iff_getElem?.1 hx
    obtain ⟨j1, hj1⟩ := List.mem_iff_getElem?.1 hq
    obtain ⟨u, hu, hL⟩ := n3 i1 j1 x q hi1 hj1
    exact one_of_oneCell hL (n2 u (List.mem_of_getElem? hu))⟩
  by_cases hpos : 0 < ys.length
  · have hr := run_append_fresh (P := P) (w := w) (ty := o.type) ht hi hz ax ad (cy := cy) n1 n4 hb hb1 hpos
    obtain ⟨arr2, harr2⟩ : ∃ arr2, arr2 = news.toArray ++ Builtin.zeroCells z.cells (grownCap w ys.length 0 e - ys.length) := ⟨_, rfl⟩
    rw [← hxe, ← hye, ← harr2] at hr
    have hrun := execOp_append (P := P) (a := a) (w := w) ho hc hca hct hr
    have hge := grownCap_ge w ys.length 0 e
    intro K hK Q
    refine Exists.elim (h.move k k2 hk2 (.row i.size ys) ⟨some w.heap.size, grownCap w ys.length 0 e⟩ (w.drew.alloc (.cells arr2 e)) (by rw [World.size_alloc]; exact Nat.le_succ _) (fun b hb => by simp at hb; subst hb; exact .inl h.size)
      (fun k3 o3 b _ _ h3 e1 e2 => by have := h.blk_lt h3 e1; simp at e2; omega) (fun b hb e => by have := hb.1; simp at e; omega) (fun b hb _ => heap_alloc_old w.drew _ b hb) (fun β' hok hkeep => ?_) (Quiet.trans (Quiet.drawn _ _) (Quiet.alloc _ _))) (fun β' hh => ?_)
    rotate_left
    · refine wp_value' hrun (hK β' _ _ (hh.2.put o.dst (.own k2) _ hd ?_))
      have := SLies.own (w := w.drew.alloc (.cells arr2 e)) (ok := okB C β' (((σ.kill k).kill k2).insAll [(k2, .row i.size ys)]).look (w.drew.alloc (.cells arr2 e))) (β := β') (lk := (((σ.kill k).kill k2).insAll [(k2, .row i.size ys)]).look) k2 i.size ys w.heap.size (by rw [St.look_ins]; simp) (by rw [hh.1])
      rw [hh.1] at this
      exact this
    · have := row_append_obj (w := w) (w' := w.drew.alloc (.cells arr2 e)) (β' := β') (lk' := (((σ.kill k).kill k2).insAll [(k2, .row i.size ys)]).look) hkeep hok (xs := []) (ys := ys) (olds := fun _ => none) (news := fun q => news[q]?) (B := ⟨some w.heap.size, grownCap w ys.length 0 e⟩) rfl (heap_alloc_new w.drew _) (by simpa using hge) ?_ (by simp) hyf (by simp) (fun q hq => ?_) (by simp) n3
      · exact this
      · rw [harr2]
        simp only [Array.size_append, List.size_toArray, size_zeroCells, hzs, n1]
        rw [← Nat.add_mul]; congr 1; omega
      · simp only [List.length_nil, Nat.zero_mul, Nat.zero_add]
        rw [harr2, Array.getElem?_append, if_pos (by simp only [List.size_toArray]; omega)]
        simp
  · obtain rfl : ys = [] := List.eq_nil_of_length_eq_zero (by omega)
    have hr := run_append_zero (P := P) (w := w) (ty := o.type) ht hi ax ad cy
    rw [← hxe] at hr
    have hye' : a.eval y = .slice ad 0 cy := hye
    rw [← hye'] at hr
    have hrun := execOp_append (P := P) (a := a) (w := w) ho hc hca hct hr
    intro K hK Q
    refine Exists.elim (h.move k k2 hk2 (.row i.size []) ⟨none, 0⟩ w (Nat.le_refl _) (fun b hb => by simp at hb) (fun k3 o3 b _ _ h3 e1 e2 => by simp at e2) (fun b hb e => by simp at e) (fun b hb _ => rfl) (fun β' hok hkeep => .inl ⟨rfl, rfl, rfl⟩) (Quiet.refl _)) (fun β' hh => ?_)
    refine wp_value' hrun (hK β' _ _ (hh.2.put o.dst (.own k2) _ hd ?_))
    rw [hxe]
    exact SLies.ownN k2 i.size ax (by rw [St.look_ins]; simp) (by rw [hh.1])

theorem sound_append_own (h : RR C β σ a w) (hd : ∀ i, o.dst = some i → i < C.nt) {c : Call} {x y : Operand} {x' y' : Opd} {t e : TypeId} (ho : o.op = .call c) (hc : c.callee = .builtin .append) (hca : c.args = #[x, y]) (hct : c.argTypes = #[t, t])
    (ht : P.underlying t = some (.slice e)) {i : TypeInfo} {z : Value} {sz bytes : Nat} (hi : P.info? e = some i) (hz : i.zero = some z) (hs : i.size = sz) (hby : i.bytes = bytes) (hzs : z.cells.size = sz) (h0 : sz ≠ 0)
    (hx : agreeO x x' = true) (hy : agreeO y y' = true) {k k2 : Key} {xs ys : List PV} (ex : σ.ev x' = .own k) (hk : σ.look k = some (.row sz xs)) (hk2 : ∀ i, k2 ≠ .ext i) (ey : σ.elems (σ.ev y') = some ys) (ha : allLen sz ys = true) (hb1 : 1 ≤ bytes) (hb : (xs.length + ys.length) * bytes ≤ 140737488355328) :
    StepOK P C ((((σ.kill k).kill k2).insAll [(k2, .row sz (xs ++ ys))]).put o.dst (.own k2)) o a w := by
  subst hs; subst hby
  have hxl := h.ev hx
  rw [ex] at hxl
  generalize hxe : a.eval x = xv at hxl
  cases hxl with
  | ownN _ sz1 ad1 hk1 hb1' =>
    rw [hk] at hk1; cases hk1
    have := sound_append_fresh (k := k) h hd ho hc hca hct ht hi hz rfl rfl hzs h0 hy hxe hk2 ey ha hb1 (by simpa using hb)
    simpa using this
  | own _ sz1 xs1 bk hk1 hbk =>
  rw [hk] at hk1; cases hk1
  obtain ⟨ad, cy, news, hye, n1, n2, n3, n4⟩ := elems_cells h (h.ev hy) ey ha h0
  obtain ⟨bk', arr, T, g0, g1, g2, g3, g4, g5⟩ := (h.objs k _ hk).resolve_left (fun e1 => by rw [hbk] at e1; cases e1.1)
  rw [hbk] at g0; cases g0
  have hcount : xs.length + ys.length ≤ 140737488355328 := by
    have : (xs.length + ys.length) * 1 ≤ (xs.length + ys.length) * i.bytes := Nat.mul_le_mul_left _ hb1
    omega
  have hyf : ∀ x ∈ ys, x.cells.length = i.size ∧ x.fine := fun x hx => ⟨allLen_spec ha x hx, fun q hq => by
    obtain ⟨i1, hi1⟩ := List.mem_iff_getElem?.1 hx
    obtain ⟨j1, hj1⟩ := List.mem_iff_getElem?.1 hq
    obtain ⟨u, hu, hL⟩ := n3 i1 j1 x q hi1 hj1
    exact one_of_oneCell hL (n2 u (List.mem_of_getElem? hu))⟩
  have own' : ∀ (β' : Key → Blk) (w' : World) (b c : Nat), β' k2 = ⟨some b, c⟩ → SLies w' (okB C β' (((σ.kill k).kill k2).insAll [(k2, .row i.size (xs ++ ys))]).look w') β' (((σ.kill k).kill k2).insAll [(k2, .row i.size (xs ++ ys))]).look (.own k2) (.slice (some ⟨b, 0, none⟩) (xs.length + ys.length) c) := by
    intro β' w' b c hB
    have := SLies.own (w := w') (ok := okB C β' (((σ.kill k).kill k2).insAll [(k2, .row i.size (xs ++ ys))]).look w') (β := β') (lk := (((σ.kill k).kill k2).insAll [(k2, .row i.size (xs ++ ys))]).look) k2 i.size (xs ++ ys) b (by rw [St.look_ins]; simp) (by rw [hB])
    rw [hB, List.length_append] at this
    exact this
  have lo := h.lo k _ bk hk hbk
  by_cases hroom : xs.length + ys.length ≤ (β k).c
  · -- in place
    have hfit : xs.length * i.size + news.length ≤ arr.size := by rw [n1, g3, ← Nat.add_mul]; exact Nat.mul_le_mul_right _ hroom
    have hr := run_append_room' (P := P) (w := w) t o.type e T i ht hi bk xs.length (β k).c arr g1 ad ys.length cy news n1 n4 n2 hroom hfit
    rw [← hxe, ← hye] at hr
    have hrun := execOp_append (P := P) (a := a) (w := w) ho hc hca hct hr
    have hsp := fun q => splice_get arr news (xs.length * i.size) news.length q rfl hfit
    intro K hK Q
    refine Exists.elim (h.move k k2 hk2 (.row i.size (xs ++ ys)) ⟨some bk, (β k).c⟩ (w.setRow bk (arr.toList.take (xs.length * i.size) ++ news ++ arr.toList.drop (xs.length * i.size + news.length)).toArray) (by simp) (fun b hb => by simp at hb; subst hb; exact lo)
      (fun k3 o3 b hne _ h3 e1 e2 => by simp at e2; subst e2; exact hne (h.inj k3 k _ _ _ h3 hk e1 hbk)) (fun b hb e => by simp at e; subst e; exact hb.2.1 k _ hk hbk) (fun b _ hne => setRow_other w _ _ _ (fun e => by subst e; exact hne _ hk hbk)) (fun β' hok hkeep => ?_) (Quiet.setRow _ _ _)) (fun β' hh => ?_)
    rotate_left
    · exact wp_value' hrun (hK β' _ _ (hh.2.put o.dst (.own k2) _ hd (own' β' _ _ _ hh.1)))
    · refine row_append_obj hkeep hok (olds := fun q => arr[q]?) (news := fun q => news[q]?) rfl (setRow_heap w _ arr _ T (0, 0) g1) (by simpa using hroom) ?_ g4 hyf (fun q hq => ?_) (fun q hq => ?_) g5 n3
      · simp only [List.size_toArray, List.length_append, List.length_take, List.length_drop, Array.length_toList]
        rw [← g3]; omega
      · rw [hsp, if_neg (by omega)]
      · rw [hsp, if_pos (by omega), Nat.add_sub_cancel_left]
  · -- a new block
    have hpos : 0 < ys.length := by omega
    obtain ⟨b, rfl, hcell⟩ := n4 hpos
    have hle : xs.length * i.size ≤ arr.size := by rw [g3]; exact Nat.mul_le_mul_right _ g2
    have hlo : (arr.toList.take (xs.length * i.size)).length = xs.length * i.size := by simp; omega
    have hr := run_append_grow (P := P) w t o.type e i z ht hi hz ⟨bk, 0, none⟩ xs.length (β k).c (arr.toList.take (xs.length * i.size)) hlo (fun j u hu => by
      rw [addr_add]
      simp only [List.getElem?_take] at hu
      split at hu
      · simp only [World.cell?, g1, Nat.zero_add]; simpa using hu
      · cases hu) b ys.length cy news n1 hcell (by omega) (by omega) (growslice_fits (by omega) hb)
    obtain ⟨arr2, harr2⟩ : ∃ arr2, arr2 = (arr.toList.take (xs.length * i.size)).toArray ++ news.toArray ++ Builtin.zeroCells z.cells (grownCap w (xs.length + ys.length) (β k).c e - (xs.length + ys.length)) := ⟨_, rfl⟩
    rw [← hxe, ← hye, ← harr2] at hr
    have hrun := execOp_append (P := P) (a := a) (w := w) ho hc hca hct hr
    have hge := grownCap_ge w (xs.length + ys.length) (β k).c e
    intro K hK Q
    refine Exists.elim (h.move k k2 hk2 (.row i.size (xs ++ ys)) ⟨some w.heap.size, grownCap w (xs.length + ys.length) (β k).c e⟩ (w.drew.alloc (.cells arr2 e)) (by rw [World.size_alloc]; exact Nat.le_succ _) (fun b hb => by simp at hb; subst hb; exact .inl h.size)
      (fun k3 o3 b _ _ h3 e1 e2 => by have := h.blk_lt h3 e1; simp at e2; omega) (fun b hb e => by have := hb.1; simp at e; omega) (fun b hb _ => heap_alloc_old w.drew _ b hb) (fun β' hok hkeep => ?_) (Quiet.trans (Quiet.drawn _ _) (Quiet.alloc _ _))) (fun β' hh => ?_)
    rotate_left
    · exact wp_value' hrun (hK β' _ _ (hh.2.put o.dst (.own k2) _ hd (own' β' _ _ _ hh.1)))
    · refine row_append_obj hkeep hok (olds := fun q => arr[q]?) (news := fun q => news[q]?) rfl (heap_alloc_new w.drew _) (by simpa using hge) ?_ g4 hyf (fun q hq => ?_) (fun q hq => ?_) g5 n3
      · rw [harr2]
        simp only [Array.size_append, List.size_toArray, size_zeroCells, hzs, hlo, n1]
        rw [← Nat.add_mul, ← Nat.add_mul]; congr 1; omega
      · rw [harr2, Array.append_assoc, Array.getElem?_append, if_pos (by simp only [List.size_toArray]; omega)]
        simp [List.getElem?_take, hq]
      · rw [harr2, Array.append_assoc, Array.getElem?_append, if_neg (by simp only [List.size_toArray]; omega), Array.getElem?_append, if_pos (by simp only [List.size_toArray, hlo]; omega)]
        simp only [List.size_toArray, hlo, List.getElem?_toArray]
        congr 1; omega

theorem sound_append_nil (h : RR C β σ a w) (hd : ∀ i, o.dst = some i → i < C.nt) {c : Call} {x y : Operand} {x' y' : Opd} {t e : TypeId} (ho : o.op = .call c) (hc : c.callee = .builtin .append) (hca : c.args = #[x, y]) (hct : c.argTypes = #[t, t])
    (ht : P.underlying t = some (.slice e)) {i : TypeInfo} {z : Value} {sz bytes : Nat} (hi : P.info? e = some i) (hz : i.zero = some z) (hs : i.size = sz) (hby : i.bytes = bytes) (hzs : z.cells.size = sz) (h0 : sz ≠ 0)
    (hx : agreeO x x' = true) (hy : agreeO y y' = true) {k : Key} {ys : List PV} (ex : σ.ev x' = .nils) (hke : ∀ i, k ≠ .ext i) (ey : σ.elems (σ.ev y') = some ys) (ha : allLen sz ys = true) (hb1 : 1 ≤ bytes) (hb : ys.length * bytes ≤ 140737488355328) :
    StepOK P C (((σ.kill k).insAll [(k, .row sz ys)]).put o.dst (.own k)) o a w := by
  have hxl := h.ev hx
  rw [ex] at hxl
  obtain ⟨ax, hxe⟩ : ∃ ax, a.eval x = .slice ax 0 0 := by generalize a.eval x = xv at hxl; cases hxl; exact ⟨_, rfl⟩
  have := sound_append_fresh (k := k) (k2 := k) h hd ho hc hca hct ht hi hz hs hby hzs h0 hy hxe hke ey ha hb1 hb
  intro K hK Q
  refine this K (fun β' a' w' h' => hK β' a' w' (h'.congr (fun t => ?_) (fun k' => ?_))) Q
  · rw [St.get_put, St.get_put, St.get_insAll, St.get_insAll, get_kill2]
  · rw [St.look_put, St.look_put, St.look_ins, St.look_ins, look_kill2]

end
end Go.Av
