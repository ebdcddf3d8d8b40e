/- Insert, as an operation: a row of the call's own is given up, another one takes its place. -/
import Derived.Test.YtkcilagjhieapaaBvS
set_option linter.unusedVariables false
set_option linter.unusedSimpArgs false
namespace Go.Av

/-- What a call of slices.Insert of one element into a row of the caller's own, or into one without memory, comes to, in the machine. -/
def InsC (P : Program) (f : FuncId) (sz by' : Nat) : Prop :=
  Enters P f ∧ (∀ (w : World) (b vb n c i vc : Nat) (cur vcur : Array Value) (T T2 : TypeId), w.heap[b]? = some (.cells cur T (0, 0)) → w.heap[vb]? = some (.cells vcur T2 (0, 0)) → vb ≠ b → cur.size = c * sz → sz ≤ vcur.size →
    n ≤ c → i ≤ n → (n + 1) * by' ≤ 140737488355328 → (∀ v ∈ cur.toList.take (n * sz), v.oneCell' = true) → (∀ v ∈ vcur.toList.take sz, v.oneCell' = true) →
    Calls P f #[.slice (some ⟨b, 0, none⟩) n c, .int .i64 i, .slice (some ⟨vb, 0, none⟩) 1 vc] w fun e w' =>
      ∃ (g G : Nat) (arr : Array Value) (T' : TypeId) (Z : List Value), e = .returned (.slice (some ⟨g, 0, none⟩) (n + 1) G) ∧ w'.heap[g]? = some (.cells arr T' (0, 0)) ∧ n + 1 ≤ G ∧ arr.size = G * sz ∧
        arr.toList = cur.toList.take (i * sz) ++ vcur.toList.take sz ++ (cur.toList.drop (i * sz)).take ((n - i) * sz) ++ Z ∧ (g = b ∨ g = w.heap.size) ∧ w.heap.size ≤ w'.heap.size ∧ (∀ k, k < w.heap.size → k ≠ b → w'.heap[k]? = w.heap[k]?) ∧ Quiet w w') ∧
  ∀ (w : World) (ax : Option Addr) (vb vc : Nat) (vcur : Array Value) (T2 : TypeId), w.heap[vb]? = some (.cells vcur T2 (0, 0)) → sz ≤ vcur.size → by' ≤ 140737488355328 → (∀ v ∈ vcur.toList.take sz, v.oneCell' = true) →
    Calls P f #[.slice ax 0 0, .int .i64 0, .slice (some ⟨vb, 0, none⟩) 1 vc] w fun e w' =>
      ∃ (G : Nat) (arr : Array Value) (T' : TypeId) (Z : List Value), e = .returned (.slice (some ⟨w.heap.size, 0, none⟩) 1 G) ∧ w'.heap[w.heap.size]? = some (.cells arr T' (0, 0)) ∧ 1 ≤ G ∧ arr.size = G * sz ∧
        arr.toList = vcur.toList.take sz ++ Z ∧ w.heap.size ≤ w'.heap.size ∧ (∀ k, k < w.heap.size → w'.heap[k]? = w.heap[k]?) ∧ Quiet w w'

section
variable {P : Program} {C : Ctx} {β : Key → Blk} {σ : St} {a : Act} {w : World}

theorem row_ones {ok : Nat → Prop} {sz : Nat} {xs : List PV} {arr : Array Value} (g4 : ∀ x ∈ xs, x.cells.length = sz ∧ x.fine) (g5 : ∀ (i j : Nat) (x y : PV), xs[i]? = some x → x.cells[j]? = some y → ∃ u, arr[i * sz + j]? = some u ∧ Lies w ok y u) :
    ∀ v ∈ arr.toList.take (xs.length * sz), v.oneCell' = true := by
  intro u hu
  obtain ⟨q, hq⟩ := List.mem_iff_getElem?.1 hu
  rw [List.getElem?_take] at hq
  split at hq
  · rename_i hlt
    have hpos : 0 < sz := by
      by_cases h : sz = 0
      · subst h; simp at hlt
      · omega
    have hi : q / sz < xs.length := (Nat.div_lt_iff_lt_mul hpos).2 (by omega)
    have hj : q % sz < sz := Nat.mod_lt _ hpos
    have hm := List.getElem_mem hi
    have hjl : q % sz < (xs[q / sz]).cells.length := by rw [(g4 _ hm).1]; exact hj
    obtain ⟨u', hu', hL⟩ := g5 (q / sz) (q % sz) _ _ (List.getElem?_eq_getElem hi) (List.getElem?_eq_getElem hjl)
    rw [Nat.mul_comm, Nat.div_add_mod, ← Array.getElem?_toList, hq] at hu'
    cases hu'
    exact hL.oneCell ((g4 _ hm).2 _ (List.getElem_mem hjl))
  · cases hq

/-- A name that is not there is named by no one. -/
theorem RR.unnamed (h : RR C β σ a w) {k : Key} (hn : σ.look k = none) : (∀ t, (σ.kill k).get t = σ.get t) ∧ ∀ k', (σ.kill k).look k' = σ.look k' := by
  have hv : ∀ {x : SV} {v : Value}, SLies w (okB C β σ.look w) β σ.look x v → x.kill k = x := fun {x v} hx => by
    rcases SV.kill_or k x with e | ⟨e, _⟩
    · unfold SV.kill at e ⊢
      cases hk : x.names k with
      | false => rfl
      | true => obtain ⟨o, ho⟩ := hx.there hk; rw [hn] at ho; cases ho
    · exact e
  refine ⟨fun t => by rw [St.get_kill]; exact hv (h.slots t), fun k' => ?_⟩
  rw [St.look_kill]
  by_cases e : k' = k
  · subst e; rw [if_pos rfl, hn]
  · rw [if_neg e]
    cases hl : σ.look k' with
    | none => rfl
    | some o =>
      simp only [Option.map_some]
      congr 1
      cases o with
      | row _ _ => rfl
      | map _ _ => rfl
      | box cs =>
        obtain ⟨b, arr, T, e0, e1, e2, e3, e4⟩ := h.objs k' _ hl
        simp only [HObj.kill]
        congr 1
        have : cs.map (SV.kill k) = cs.map (fun v => v) := List.map_congr_left (fun v hv' => by
          obtain ⟨j, hj⟩ := List.mem_iff_getElem?.1 hv'
          have hjl := (List.getElem?_eq_some_iff.1 hj).1
          exact hv (e4 j v _ hj (Array.getElem?_eq_getElem (by omega))))
        rw [this]; simp

/-- The new row's object. -/
theorem ins_obj {w' : World} {ok ok' : Nat → Prop} {β' : Key → Blk} {lk' : Key → Option HObj} (hk : Keeps ok w w') (hok : ∀ b, ok b → ok' b) {sz n : Nat} {xs : List PV} {e : PV} {old elem : Nat → Option Value} {g G : Nat} {arr : Array Value} {T : TypeId} (hn : n ≤ xs.length)
    (hg : w'.heap[g]? = some (.cells arr T (0, 0))) (hG : xs.length + 1 ≤ G) (hs : arr.size = G * sz) (hx : ∀ x ∈ xs, x.cells.length = sz ∧ x.fine) (he : e.cells.length = sz ∧ e.fine)
    (h1 : ∀ q, q < n * sz → arr[q]? = old q) (h2 : ∀ q, q < sz → arr[n * sz + q]? = elem q) (h3 : ∀ q, n * sz ≤ q → q < xs.length * sz → arr[sz + q]? = old q)
    (hold : ∀ (i j : Nat) (x y : PV), xs[i]? = some x → x.cells[j]? = some y → ∃ u, old (i * sz + j) = some u ∧ Lies w ok y u)
    (helem : ∀ (j : Nat) (y : PV), e.cells[j]? = some y → ∃ u, elem j = some u ∧ Lies w ok y u) : HLies w' ok' β' lk' (.row sz (xs.take n ++ e :: xs.drop n)) ⟨some g, G⟩ := by
  refine .inr ⟨g, arr, T, rfl, hg, by simp; omega, hs, ?_, ?_⟩
  · intro x' hx'
    rcases List.mem_append.1 hx' with hx' | hx'
    · exact hx x' (List.mem_of_mem_take hx')
    · rcases List.mem_cons.1 hx' with rfl | hx'
      · exact he
      · exact hx x' (List.mem_of_mem_drop hx')
  · intro i' j' x' y' hx' hy'
    have hxm := List.mem_of_getElem? hx'
    have hcl : x'.cells.length = sz := by
      rcases List.mem_append.1 hxm with hx' | hx'
      · exact (hx x' (List.mem_of_mem_take hx')).1
      · rcases List.mem_cons.1 hx' with rfl | hx'
        · exact he.1
        · exact (hx x' (List.mem_of_mem_drop hx')).1
    have hj : j' < sz := by have := (List.getElem?_eq_some_iff.1 hy').1; omega
    have l0 : (xs.take n).length = n := by simp; omega
    rcases Nat.lt_trichotomy i' n with hlt | heq | hgt
    · have hx2 : xs[i']? = some x' := by
        rw [List.getElem?_append_left (by simp; omega), List.getElem?_take, if_pos hlt] at hx'
        exact hx'
      obtain ⟨u, hu, hl⟩ := hold i' j' x' y' hx2 hy'
      have hq : i' * sz + j' < n * sz := by
        have : (i' + 1) * sz ≤ n * sz := Nat.mul_le_mul_right _ hlt
        rw [Nat.add_mul] at this; omega
      exact ⟨u, by rw [h1 _ hq]; exact hu, hl.mono hk hok⟩
    · subst heq
      rw [List.getElem?_append_right (by omega), l0] at hx'
      simp at hx'; subst hx'
      obtain ⟨u, hu, hl⟩ := helem j' y' hy'
      exact ⟨u, by rw [h2 _ hj]; exact hu, hl.mono hk hok⟩
    · have hx2 : xs[i' - 1]? = some x' := by
        rw [List.getElem?_append_right (by omega), l0, show i' - n = (i' - n - 1) + 1 by omega, List.getElem?_cons_succ, List.getElem?_drop, show n + (i' - n - 1) = i' - 1 by omega] at hx'
        exact hx'
      obtain ⟨u, hu, hl⟩ := hold (i' - 1) j' x' y' hx2 hy'
      have hil : i' - 1 < xs.length := (List.getElem?_eq_some_iff.1 hx2).1
      obtain ⟨t, rfl⟩ : ∃ t, i' = t + 1 := ⟨i' - 1, by omega⟩
      have e1 : (t + 1) * sz = t * sz + sz := Nat.succ_mul t sz
      have e2 : n * sz ≤ t * sz := Nat.mul_le_mul_right _ (by omega)
      have e3 : (t + 1) * sz ≤ xs.length * sz := Nat.mul_le_mul_right _ (by simp at hil; omega)
      refine ⟨u, ?_, hl.mono hk hok⟩
      rw [show (t + 1) * sz + j' = sz + (t * sz + j') by omega, h3 _ (by omega) (by omega)]
      rw [Nat.add_sub_cancel] at hu
      exact hu

theorem sound_ins {f : FuncId} {sz by' : Nat} (hI : InsC P f sz by') {o : Oper} (h : RR C β σ a w) (hd : ∀ i, o.dst = some i → i < C.nt) {c : Call} {fo : Operand} {x : Nat} {i y : Opd} (ho : o.op = .call c) (hc : c.callee = .value fo)
    (hf : agreeO fo (.cst (.fn f)) = true) (ha : all2 agreeO c.args.toList [.tmp x, i, y] = true) {k k2 : Key} {n : Int} {xs : List PV} {e : PV} (hx : σ.get x = .own k) (hi : σ.ev i = .pv (.int .i64 n)) (hy : σ.ev y = .own k2)
    (hk : σ.look k = some (.row sz xs)) (hk2 : σ.look k2 = some (.row sz [e])) (hne : k ≠ k2) (h0 : 0 ≤ n) (hn : n ≤ xs.length) (hb : (xs.length + 1) * by' ≤ 140737488355328) {d : Nat} (hfr : σ.look (.loc d 0) = none) :
    StepOK P C (((σ.kill k).insAll [(.loc d 0, .row sz (xs.take n.toNat ++ e :: xs.drop n.toNat))]).put o.dst (.own (.loc d 0))) o a w := by
  obtain ⟨us, hfe, hlen, hargs⟩ := args_are h hf ha (g := f) (caps := []) rfl
  obtain ⟨hE, hcon1, hcon2⟩ := hI
  obtain ⟨v0, v1, v2, hvs⟩ : ∃ v0 v1 v2, c.args.toList.map a.eval ++ us = [v0, v1, v2] := by
    match hq : c.args.toList.map a.eval ++ us, hlen with
    | [v0, v1, v2], _ => exact ⟨v0, v1, v2, rfl⟩
    | [], hl => simp at hl
    | [_], hl => simp at hl
    | [_, _], hl => simp at hl
    | _ :: _ :: _ :: _ :: _, hl => simp at hl
  rw [hvs] at hargs
  have s0 : SLies w (okB C β σ.look w) β σ.look (.own k) v0 := hargs 0 _ v0 (by simp [St.ev, hx]) rfl
  have s1 : SLies w (okB C β σ.look w) β σ.look (.pv (.int .i64 n)) v1 := hargs 1 _ v1 (by simp [hi]) rfl
  have s2 : SLies w (okB C β σ.look w) β σ.look (.own k2) v2 := hargs 2 _ v2 (by simp [hy]) rfl
  obtain ⟨b2, arr2, T2, q0, q1, q2, q3, q4, q5⟩ := (h.objs k2 _ hk2).resolve_left (fun e1 => by cases e1.2.1)
  have hsz2 : sz ≤ arr2.size := by rw [q3]; exact Nat.le_mul_of_pos_left _ (by simp at q2; omega)
  have helem : ∀ (j : Nat) (y : PV), e.cells[j]? = some y → ∃ u, arr2.toList[j]? = some u ∧ Lies w (okB C β σ.look w) y u := fun j y hy => by
    obtain ⟨u, hu, hl⟩ := q5 0 j e y rfl hy
    exact ⟨u, by simpa using hu, hl⟩
  have hmn : n.toNat ≤ xs.length := by omega
  -- from the moved state to the one that is said
  have cong : ∀ {β' : Key → Blk} {w' : World} {a' : Act} {o1 : HObj}, RR C β' ((((σ.kill k).kill (.loc d 0)).insAll [(.loc d 0, o1)]).put o.dst (.own (.loc d 0))) a' w' → RR C β' (((σ.kill k).insAll [(.loc d 0, o1)]).put o.dst (.own (.loc d 0))) a' w' := fun {β' w' a' o1} h' => by
    obtain ⟨u1, u2⟩ := (h.kill k).unnamed (k := .loc d 0) (by rw [St.look_kill]; split <;> simp [hfr])
    refine h'.congr (fun t => ?_) (fun k' => ?_)
    · rw [St.get_put, St.get_put, St.get_insAll, St.get_insAll, u1]
    · rw [St.look_put, St.look_put, St.look_ins, St.look_ins, u2]
  have own' : ∀ (β' : Key → Blk) (w' : World) (g G : Nat), β' (.loc d 0) = ⟨some g, G⟩ → SLies w' (okB C β' (((σ.kill k).kill (.loc d 0)).insAll [(.loc d 0, .row sz (xs.take n.toNat ++ e :: xs.drop n.toNat))]).look w') β' (((σ.kill k).kill (.loc d 0)).insAll [(.loc d 0, .row sz (xs.take n.toNat ++ e :: xs.drop n.toNat))]).look (.own (.loc d 0)) (.slice (some ⟨g, 0, none⟩) (xs.length + 1) G) := by
    intro β' w' g G hB
    have := SLies.own (w := w') (ok := okB C β' (((σ.kill k).kill (.loc d 0)).insAll [(.loc d 0, .row sz (xs.take n.toNat ++ e :: xs.drop n.toNat))]).look w') (β := β') (lk := (((σ.kill k).kill (.loc d 0)).insAll [(.loc d 0, .row sz (xs.take n.toNat ++ e :: xs.drop n.toNat))]).look) (.loc d 0) sz (xs.take n.toNat ++ e :: xs.drop n.toNat) g (by rw [St.look_ins]; simp) (by rw [hB])
    have el : (xs.take n.toNat ++ e :: xs.drop n.toNat).length = xs.length + 1 := by simp; omega
    rw [hB, el] at this
    exact this
  cases s2 with
  | ownN _ sz3 ad hk3 hb3 => rw [hk2] at hk3; cases hk3
  | own _ sz2 xs2 b2' hk2' hb2' =>
  rw [hk2] at hk2'; cases hk2'
  rw [q0] at hb2'; cases hb2'
  cases s1 with
  | pv _ _ hl =>
  cases hl
  cases s0 with
  | own _ sz1 xs1 b hk' hbk =>
    rw [hk] at hk'; cases hk'
    obtain ⟨b', arr, T, g0, g1, g2, g3, g4, g5⟩ := (h.objs k _ hk).resolve_left (fun e1 => by rw [hbk] at e1; cases e1.1)
    rw [hbk] at g0; cases g0
    intro K hK Q
    unfold Oper.wp
    rw [run_call ho hc hfe hE, Oper.upon_enter, hvs]
    have hcall := hcon1 w b b2 xs.length (β k).c n.toNat (β k2).c arr arr2 T T2 g1 q1 (fun e => by subst e; exact hne (h.inj k k2 _ _ _ hk hk2 hbk q0)) g3 hsz2 g2 hmn hb (row_ones g4 g5) (by simpa using row_ones q4 q5)
    rw [Int.toNat_of_nonneg h0] at hcall
    refine hcall.mono fun en w' hen => ?_
    obtain ⟨g, G, arr', T', Z, rfl, r1, r2, r3, r4, r5, r6, r7, r8⟩ := hen
    have hle : xs.length * sz ≤ arr.size := by rw [g3]; exact Nat.mul_le_mul_right _ g2
    have hle2 : n.toNat * sz ≤ xs.length * sz := Nat.mul_le_mul_right _ hmn
    have hsub : (xs.length - n.toNat) * sz = xs.length * sz - n.toNat * sz := Nat.sub_mul _ _ _
    have l1 : (arr.toList.take (n.toNat * sz)).length = n.toNat * sz := by simp; omega
    have l2 : (arr2.toList.take sz).length = sz := by simp; omega
    have l3 : ((arr.toList.drop (n.toNat * sz)).take ((xs.length - n.toNat) * sz)).length = (xs.length - n.toNat) * sz := by simp; omega
    refine Exists.elim (h.move k (.loc d 0) (by simp) (.row sz (xs.take n.toNat ++ e :: xs.drop n.toNat)) ⟨some g, G⟩ w' r6 ?_ ?_ ?_ (fun b' hb' hne' => r7 b' hb' (fun e1 => by subst e1; exact hne' _ hk hbk)) (fun β' hok hkeep => ?_) r8) fun β' hβ => ?_
    · intro b' hb'
      simp at hb'; subst hb'
      rcases r5 with rfl | rfl
      · exact h.lo k _ _ hk hbk
      · exact .inl h.size
    · intro k3 o3 b' hk3 _ hl3 hb3 e1
      simp at e1; subst e1
      rcases r5 with rfl | rfl
      · exact hk3 (h.inj k3 k _ _ _ hl3 hk hb3 hbk)
      · have := h.blk_lt hl3 hb3; omega
    · intro b' hb' e1
      simp at e1; subst e1
      rcases r5 with rfl | rfl
      · exact hb'.2.1 k _ hk hbk
      · have := hb'.1; omega
    · refine ins_obj hkeep hok hmn r1 r2 r3 g4 (q4 e (by simp)) (old := fun q => arr[q]?) (elem := fun q => arr2.toList[q]?) (fun q hq => ?_) (fun q hq => ?_) (fun q hq1 hq2 => ?_) g5 helem
      · rw [← Array.getElem?_toList, r4, List.append_assoc, List.append_assoc, List.getElem?_append_left (by rw [l1]; exact hq), List.getElem?_take, if_pos hq, Array.getElem?_toList]
      · rw [← Array.getElem?_toList, r4, List.append_assoc, List.append_assoc, List.getElem?_append_right (by rw [l1]; omega), l1, List.getElem?_append_left (by rw [l2]; omega), Nat.add_sub_cancel_left, List.getElem?_take, if_pos hq]
      · rw [← Array.getElem?_toList, r4, List.append_assoc, List.append_assoc, List.getElem?_append_right (by rw [l1]; omega), l1, List.getElem?_append_right (by rw [l2]; omega), l2, List.getElem?_append_left (by rw [l3]; omega), List.getElem?_take, if_pos (by omega), List.getElem?_drop, Array.getElem?_toList]
        rw [show n.toNat * sz + (sz + q - n.toNat * sz - sz) = q by omega]
    · obtain ⟨hB, h'⟩ := hβ
      exact hK β' _ _ (cong (h'.put o.dst (.own (.loc d 0)) _ hd (own' β' w' g G hB)))
  | ownN _ sz1 ad hk' hbk =>
    rw [hk] at hk'; cases hk'
    obtain rfl : n = 0 := by simp at hn; omega
    intro K hK Q
    unfold Oper.wp
    rw [run_call ho hc hfe hE, Oper.upon_enter, hvs]
    have hcall := hcon2 w ad b2 (β k2).c arr2 T2 q1 hsz2 (by simpa using hb) (by simpa using row_ones q4 q5)
    refine hcall.mono fun en w' hen => ?_
    obtain ⟨G, arr', T', Z, rfl, r1, r2, r3, r4, r6, r7, r8⟩ := hen
    have l2 : (arr2.toList.take sz).length = sz := by simp; omega
    refine Exists.elim (h.move k (.loc d 0) (by simp) (.row sz (List.take (0 : Int).toNat [] ++ e :: List.drop (0 : Int).toNat [])) ⟨some w.heap.size, G⟩ w' r6 ?_ ?_ ?_ (fun b' hb' _ => r7 b' hb') (fun β' hok hkeep => ?_) r8) fun β' hβ => ?_
    · intro b' hb'
      simp at hb'; subst hb'
      exact .inl h.size
    · intro k3 o3 b' hk3 _ hl3 hb3 e1
      simp at e1; subst e1
      have := h.blk_lt hl3 hb3; omega
    · intro b' hb' e1
      simp at e1; subst e1
      have := hb'.1; omega
    · refine ins_obj (n := 0) (xs := []) hkeep hok (Nat.le_refl _) r1 r2 r3 (by simp) (q4 e (by simp)) (old := fun q => none) (elem := fun q => arr2.toList[q]?) (fun q hq => by omega) (fun q hq => ?_) (fun q hq1 hq2 => by simp at hq2) (by simp) helem
      rw [Nat.zero_mul, Nat.zero_add, ← Array.getElem?_toList, r4, List.getElem?_append_left (by rw [l2]; omega), List.getElem?_take, if_pos hq]
    · obtain ⟨hB, h'⟩ := hβ
      exact hK β' _ _ (cong (h'.put o.dst (.own (.loc d 0)) _ hd (own' β' w' _ G hB)))

/-- The call that an operation is, for its agreement. -/
def GOp.plain (g : GOp) : GOp := match g.op with
  | .ins f _ _ x i y => ⟨g.d, g.g, .call 1 0 (.cst (.fn f)) [.tmp x, i, y] [] []⟩
  | _ => g

theorem guardedIns {f : FuncId} {sz by' x : Nat} {i y : Opd} (hI : InsC P f sz by') {o : Oper} {ops : Array Oper} {g : GOp} (hop : g.op = .ins f sz by' x i y) (hgg : g.g = none) (h : RR C β σ a w) (hag : agreeG P C.nt ops o g.plain = true)
    {cl : Callee} {e : Eff} (he : aeff cl σ (g.d.getD 0) g.op = some e) (hfr : σ.look (.loc (g.d.getD 0) 0) = none) {K : Act → World → Prop}
    (hK : ∀ β' a' w' k, σ.get x = .own k → RR C β' (((σ.kill k).insAll e.ins).put g.d e.v) a' w' → K a' w') (Q : Exit → Act → World → Prop) : Guarded P ops o a w K Q := by
  have hpl : g.plain = ⟨g.d, g.g, .call 1 0 (.cst (.fn f)) [.tmp x, i, y] [] []⟩ := by unfold GOp.plain; rw [hop]
  rw [hpl] at hag
  obtain ⟨g1, g2, g3, g4⟩ := agreeG_spec hag
  rw [hop] at he
  simp only [aeff] at he
  unfold Guarded
  rw [wants_wanted (b := true) h g4 (by simp [hgg, St.wants])]
  simp only [if_true]
  simp only [agree, agCall] at g1
  replace g1 := (Bool.and_eq_true_iff.1 g1).2
  split at g1
  · rename_i c ho
    split at g1
    · rename_i fo hc
      simp only [Bool.and_eq_true] at g1
      split at he
      · rename_i k n k2 hx hi hy
        split at he
        · rename_i s1 xs s2 e1 hk hk2
          simp only [cond_eq_ite] at he
          split at he
          · rename_i hb
            simp only [Bool.and_eq_true, beq_iff_eq, decide_eq_true_eq] at hb
            obtain ⟨rfl, rfl, hne, h0, hn, hbb⟩ := hb
            cases he
            have hi' : σ.ev i = .pv (.int .i64 n) := by
              unfold intOf at hi
              split at hi
              · rename_i k' n' e; cases hi; exact e
              · cases hi
            refine sound_ins hI h g3 ho hc g1.1 g1.2 hx hi' hy hk hk2 hne h0 hn hbb hfr K (fun β' a' w' h' => hK β' a' w' k hx ?_) Q
            rw [g2] at h'
            exact h'
          · cases he
        · cases he
      · cases he
    · cases g1
  · cases g1

end
end Go.Av
