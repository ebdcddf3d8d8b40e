/- Maps. -/
import Derived.Test.YtkcilagjhieapaaBvA
import Derived.MapKept
set_option linter.unusedVariables false
set_option linter.unusedSimpArgs false
namespace Go.Av
section
variable {P : Program} {C : Ctx} {β : Key → Blk} {σ : St} {a : Act} {w : World} {o : Oper}

def KK.is : KK → TypeDesc → Bool
  | .i k, .int k' => decide (k = k')
  | .b, .bool => true
  | .s, .string => true
  | _, _ => false

theorem isKK_key {kk : KK} {d : TypeDesc} (hd : kk.is d = true) {x : PV} {v : Value} {ok : Nat → Prop} (hx : x.isKK kk = true) (hl : Lies w ok x v) : MapKept.IsKey d v := by
  cases kk <;> cases x <;> simp only [PV.isKK] at hx <;> try (cases hx; done)
  all_goals
    cases d <;> simp only [KK.is] at hd <;> try (cases hd; done)
    cases hl
  · simp only [decide_eq_true_eq] at hx hd
    subst hx; subst hd
    rfl
  · trivial
  · trivial

theorem same1_now {kk : KK} {d : TypeDesc} (hd : kk.is d = true) {x y : PV} {u v : Value} {ok : Nat → Prop} (hx : x.isKK kk = true) (hy : y.isKK kk = true) (hu : Lies w ok x u) (hv : Lies w ok y v) : Instr.sameNow d u v = some (PV.same1 x y) := by
  cases kk <;> cases x <;> simp only [PV.isKK] at hx <;> (try (cases hx; done)) <;> cases y <;> simp only [PV.isKK] at hy <;> (try (cases hy; done)) <;>
    cases d <;> simp only [KK.is] at hd <;> (try (cases hd; done)) <;> cases hu <;> cases hv <;> simp only [Instr.sameNow, PV.same1]
  · simp only [decide_eq_true_eq] at hx hy
    subst hx; subst hy
    simp
  · rename_i s t
    congr 1
    rw [Bool.eq_iff_iff, MapKept.bytes_beq]
    simp

/-- The first entry of a key. -/
def mapIdx : List (PV × PV) → PV → Option Nat
  | [], _ => none
  | e :: es, k => if PV.same1 k e.1 then some 0 else (mapIdx es k).map (· + 1)

theorem mapIdx_get : ∀ {es : List (PV × PV)} {k : PV}, mapGet es k = (mapIdx es k).bind (fun i => (es[i]?).map (·.2))
  | [], k => rfl
  | e :: es, k => by
    have ih := mapIdx_get (es := es) (k := k)
    unfold mapGet at ih ⊢
    simp only [List.find?_cons, mapIdx]
    cases h : PV.same1 k e.1 with
    | true => simp
    | false =>
      simp only [Bool.false_eq_true, if_false]
      rw [ih]
      cases mapIdx es k <;> simp

theorem mapIdx_set : ∀ {es : List (PV × PV)} {k v : PV}, mapSet es k v = match mapIdx es k with
    | some i => es.modify i (fun e => (e.1, v))
    | none => es ++ [(k, v)]
  | [], k, v => rfl
  | e :: es, k, v => by
    have ih := mapIdx_set (es := es) (k := k) (v := v)
    simp only [mapSet, mapIdx]
    cases h : PV.same1 k e.1 with
    | true => simp
    | false =>
      simp only [Bool.false_eq_true, if_false]
      rw [ih]
      cases mapIdx es k <;> simp

theorem mapIdx_lt : ∀ {es : List (PV × PV)} {k : PV} {i : Nat}, mapIdx es k = some i → i < es.length
  | [], k, i, h => by cases h
  | e :: es, k, i, h => by
    simp only [mapIdx] at h
    split at h
    · simp at h; subst h; simp
    · simp only [Option.map_eq_some_iff] at h
      obtain ⟨j, hj, rfl⟩ := h
      have := mapIdx_lt hj
      simp; omega

theorem mapIdx_same : ∀ {es : List (PV × PV)} {k : PV} {i : Nat}, mapIdx es k = some i → ∃ e, es[i]? = some e ∧ PV.same1 k e.1 = true
  | [], k, i, h => by cases h
  | e :: es, k, i, h => by
    simp only [mapIdx] at h
    split at h
    · rename_i hs; simp at h; subst h; exact ⟨e, rfl, hs⟩
    · simp only [Option.map_eq_some_iff] at h
      obtain ⟨j, hj, rfl⟩ := h
      obtain ⟨e', h1, h2⟩ := mapIdx_same hj
      exact ⟨e', by simpa using h1, h2⟩

theorem findNow_is {kk : KK} {d : TypeDesc} (hd : kk.is d = true) {ok : Nat → Prop} {k : PV} {kv : Value} (hk : k.isKK kk = true) (hkv : Lies w ok k kv) : ∀ {es : List (PV × PV)} {ents : List MapEntry} (i : Nat), EntsLie w ok kk es ents →
    Instr.findNow d kv ents i = some ((mapIdx es k).bind (fun j => (ents[j]?).map (fun e => (i + j, e.val))))
  | [], ents, i, h => by
    have : ents = [] := List.eq_nil_of_length_eq_zero (by simpa using h.1.symm)
    subst this; rfl
  | e :: es, [], i, h => by have := h.1; simp at this
  | e :: es, u :: us, i, h => by
    obtain ⟨h1, h2, h3⟩ := h.2 0 e u rfl rfl
    have hr : EntsLie w ok kk es us := ⟨by simpa using h.1, fun j e u he hu => h.2 (j + 1) e u (by simpa using he) (by simpa using hu)⟩
    simp only [Instr.findNow, same1_now hd hk h1 hkv h2, mapIdx]
    cases hs : PV.same1 k e.1 with
    | true => simp
    | false =>
      simp only [Bool.false_eq_true, if_false]
      rw [findNow_is hd hk hkv (i + 1) hr]
      cases mapIdx es k with
      | none => rfl
      | some j =>
        simp only [Option.map_some, Option.bind_some, List.getElem?_cons_succ]
        cases us[j]? with
        | none => rfl
        | some q => simp; omega

theorem sound_mkmap (h : RR C β σ a w) (hd : ∀ i, o.dst = some i → i < C.nt) {t : TypeId} (ho : o.op = .makeMap t none) (kk : KK) (k : Key) (hk : ∀ i, k ≠ .ext i) (hn : σ.look k = none) : StepOK P C ((σ.insAll [(k, .map kk [])]).put o.dst (.mp k)) o a w := by
  refine StepOK.new h hd k hk hn _ 0 (.map #[] 0) (v := .map (some w.heap.size)) ?_ (fun β' b1 _ hok => ⟨_, #[], 0, rfl, heap_alloc_new w _, rfl, by simp⟩) (fun β' b2 => ?_)
  · simp only [execOp, ho, Option.map_none, Sem.run_bind, Instr.makeMap, run_newObj_alloc, Result.andThen_ok, Sem.run_pure]
  · exact SLies.mp k kk [] w.heap.size (by rw [St.look_ins]; simp) (by rw [b2])

theorem sound_mlook (h : RR C β σ a w) (hd : ∀ i, o.dst = some i → i < C.nt) {t kt et : TypeId} {x i : Operand} {ok : Bool} {x' i' : Opd} (ho : o.op = .lookup t x i ok) (hx : agreeO x x' = true) (hi : agreeO i i' = true)
    {d : TypeDesc} {kk : KK} (ht : P.underlying t = some (.map kt et)) (hkt : P.underlying kt = some d) (hkd : kk.is d = true) {it : TypeInfo} {z : Value} {zero : PV} (hit : P.info? et = some it) (hz : it.zero = some z) (hzl : ∀ (w : World) (ok : Nat → Prop), Lies w ok zero z)
    {k : Key} {es : List (PV × PV)} {kv : PV} (ex : σ.ev x' = .mp k) (hk : σ.look k = some (.map kk es)) (ei : σ.ev i' = .pv kv) (hkv : kv.isKK kk = true) :
    StepOK P C ((σ.insAll []).put o.dst (bif ok then .tup [.pv ((mapGet es kv).getD zero), .pv (.bool (mapGet es kv).isSome)] else .pv ((mapGet es kv).getD zero))) o a w := by
  have hxl := h.ev hx
  have hil := h.ev hi
  rw [ex] at hxl; rw [ei] at hil
  have hil := slies_pv hil
  obtain ⟨b, ents, clock, g0, g1, g2⟩ := h.objs k _ hk
  have hxe : a.eval x = .map (some b) := by
    generalize a.eval x = xv at hxl
    cases hxl with | mp _ kk' es' b' hk' hb' => rw [g0] at hb'; cases hb'; rfl
  have hkey := isKK_key hkd hkv hil
  have hfind := findNow_is hkd hkv hil 0 g2
  have hget : ∃ u q, (mapIdx es kv).bind (fun j => (ents.toList[j]?).map (fun e => (0 + j, e.val))) = q ∧ (q.map (·.2)).getD z = u ∧ q.isSome = (mapGet es kv).isSome ∧ Lies w (okB C β σ.look w) ((mapGet es kv).getD zero) u := by
    refine ⟨_, _, rfl, rfl, ?_, ?_⟩
    · rw [mapIdx_get]
      cases hm : mapIdx es kv with
      | none => rfl
      | some j =>
        have := mapIdx_lt hm
        have h2 : j < ents.toList.length := by rw [← g2.1]; exact this
        simp only [Option.bind_some, List.getElem?_eq_getElem this, List.getElem?_eq_getElem h2]; rfl
    · rw [mapIdx_get]
      cases hm : mapIdx es kv with
      | none => exact hzl _ _
      | some j =>
        have := mapIdx_lt hm
        have h2 : j < ents.toList.length := by rw [← g2.1]; exact this
        simp only [Option.bind_some, List.getElem?_eq_getElem this, List.getElem?_eq_getElem h2, Option.map_some, Option.getD_some]
        exact (g2.2 j _ _ (List.getElem?_eq_getElem this) (List.getElem?_eq_getElem h2)).2.2
  obtain ⟨u, q, hq, hu, hsome, hlie⟩ := hget
  rw [hq] at hfind
  have hrun : (Instr.lookup t (a.eval x) (a.eval i) ok).run P w = .ok (if ok then .tuple #[u, .bool (mapGet es kv).isSome] else u) w := by
    rw [hxe]
    simp only [Instr.lookup, Sem.run_bind, run_underlying ht, Result.andThen_ok, MapKept.run_getObj_map g1, Sem.run_pure, MapKept.run_checkKey hkt hkey _ 9999, MapKept.run_findKey hkt hfind]
    cases q with
    | none =>
      simp only [Option.map_none, Option.getD_none] at hu
      simp only [Option.isSome_none] at hsome
      subst hu
      rw [← hsome]
      simp only [zeroValue, typeInfo, run_program, Sem.run_bind, hit, hz, Sem.run_pure, Result.andThen_ok]
    | some p =>
      simp only [Option.map_some, Option.getD_some] at hu
      simp only [Option.isSome_some] at hsome
      obtain ⟨p1, p2⟩ := p
      rw [← hsome, ← hu]
      cases ok <;> simp only [Sem.run_bind, Sem.run_pure, Result.andThen_ok, if_true, Bool.false_eq_true, if_false]
  refine StepOK.value h hd (v := if ok then .tuple #[u, .bool (mapGet es kv).isSome] else u) ?_ ?_
  · simp only [execOp, ho, Sem.run_bind, hrun, Result.andThen_ok, Sem.run_pure]
  · cases ok with
    | false => exact .pv _ _ hlie
    | true =>
      refine SLies.tup [_, _] [u, .bool (mapGet es kv).isSome] rfl (fun j y q hy hq => ?_)
      match j, hy, hq with
      | 0, hy, hq => simp at hy hq; subst hy; subst hq; exact .pv _ _ hlie
      | 1, hy, hq => simp at hy hq; subst hy; subst hq; exact .pv _ _ (.bool _)

theorem sound_mlen (h : RR C β σ a w) (hd : ∀ i, o.dst = some i → i < C.nt) {c : Call} {x : Operand} {x' : Opd} {t : TypeId} (ho : o.op = .call c) (hc : c.callee = .builtin .len) (hca : c.args = #[x]) (hct : c.argTypes = #[t])
    (hx : agreeO x x' = true) {kt et : TypeId} (ht : P.underlying t = some (.map kt et)) {k : Key} {kk : KK} {es : List (PV × PV)} (ex : σ.ev x' = .mp k) (hk : σ.look k = some (.map kk es)) :
    StepOK P C ((σ.insAll []).put o.dst (.pv (.int .i64 es.length))) o a w := by
  have hxl := h.ev hx
  rw [ex] at hxl
  obtain ⟨b, ents, clock, g0, g1, g2⟩ := h.objs k _ hk
  have hxe : a.eval x = .map (some b) := by
    generalize a.eval x = xv at hxl
    cases hxl with | mp _ kk' es' b' hk' hb' => rw [g0] at hb'; cases hb'; rfl
  have hl : ents.size = es.length := by have := g2.1; simp at this; exact this.symm
  refine StepOK.value h hd (v := .int .i64 es.length) ?_ (.pv _ _ (.int _ _))
  simp only [execOp, ho, resolve, hc, hca, hct, List.map_toArray, List.map_cons, List.map_nil, Sem.run_bind, Sem.run_pure, Result.andThen_ok, invoke, builtin, Builtin.len_, hxe, List.getElem?_toArray, List.getElem?_cons_zero, run_underlying ht, goInt, MapKept.run_getObj_map g1, hl]

theorem sameBits_of {kk : KK} {x y : PV} {u v : Value} {ok : Nat → Prop} (hx : x.isKK kk = true) (hy : y.isKK kk = true) (hu : Lies w ok x u) (hv : Lies w ok y v) (hs : PV.same1 x y = true) (n : Nat) : Instr.sameBits n v u = true ∧ x = y := by
  cases kk <;> cases x <;> simp only [PV.isKK] at hx <;> (try (cases hx; done)) <;> cases y <;> simp only [PV.isKK] at hy <;> (try (cases hy; done)) <;> cases hu <;> cases hv <;> simp only [PV.same1, beq_iff_eq] at hs
  · simp only [decide_eq_true_eq] at hx hy
    subst hx; subst hy; subst hs
    cases n <;> simp [Instr.sameBits]
  · subst hs; cases n <;> simp [Instr.sameBits]
  · subst hs
    cases n <;> simp only [Instr.sameBits, MapKept.bytes_beq, and_self]

theorem sound_mset (h : RR C β σ a w) (hd : ∀ i, o.dst = some i → i < C.nt) {t kt et : TypeId} {x i y : Operand} {x' i' y' : Opd} (ho : o.op = .mapUpdate t x i y ∨ o.op = .insert t x i y) (hx : agreeO x x' = true) (hi : agreeO i i' = true) (hy : agreeO y y' = true)
    {d : TypeDesc} {kk : KK} (ht : P.underlying t = some (.map kt et)) (hkt : P.underlying kt = some d) (hkd : kk.is d = true)
    {k : Key} {es : List (PV × PV)} {kv vv : PV} (ex : σ.ev x' = .mp k) (hk : σ.look k = some (.map kk es)) (ei : σ.ev i' = .pv kv) (ey : σ.ev y' = .pv vv) (hkv : kv.isKK kk = true) :
    StepOK P C ((σ.over k (.map kk (mapSet es kv vv))).put o.dst .dead) o a w := by
  have hxl := h.ev hx
  have hil := h.ev hi
  have hyl := h.ev hy
  rw [ex] at hxl; rw [ei] at hil; rw [ey] at hyl
  have hil := slies_pv hil
  have hyl := slies_pv hyl
  obtain ⟨b, ents, clock, g0, g1, g2⟩ := h.objs k _ hk
  have hxe : a.eval x = .map (some b) := by
    generalize a.eval x = xv at hxl
    cases hxl with | mp _ kk' es' b' hk' hb' => rw [g0] at hb'; cases hb'; rfl
  have hkey := isKK_key hkd hkv hil
  have hfind := findNow_is hkd hkv hil 0 g2
  have hrun : ∃ ents' clock', (Instr.mapUpdate t (a.eval x) (a.eval i) (a.eval y)).run P w = .ok () { w with heap := w.heap.setIfInBounds b (.map ents' clock') } ∧ EntsLie w (okB C β σ.look w) kk (mapSet es kv vv) ents'.toList := by
    rw [hxe, mapIdx_set]
    cases hm : mapIdx es kv with
    | none =>
      rw [hm] at hfind
      refine ⟨ents.push { key := a.eval i, val := a.eval y, born := clock }, clock + 1, ?_, ?_⟩
      · simp only [Instr.mapUpdate, Sem.run_bind, run_underlying ht, Result.andThen_ok, MapKept.run_getObj_map g1, MapKept.run_checkKey hkt hkey _ 9999, MapKept.run_findKey hkt hfind, Option.bind_none, MapKept.run_setObj_map _ g1]
      · refine ⟨by simp [g2.1], fun j e u he hu => ?_⟩
        simp only [Array.toList_push, List.getElem?_append] at he hu
        rw [← g2.1] at hu
        split at he
        · rename_i hlt; rw [if_pos hlt] at hu; exact g2.2 j e u he hu
        · rename_i hlt
          rw [if_neg hlt] at hu
          have hj : j - es.length = 0 := by
            have := (List.getElem?_eq_some_iff.1 he).1
            simpa using this
          rw [hj] at he hu
          simp at he hu
          subst he; subst hu
          exact ⟨hkv, hil, hyl⟩
    | some j =>
      rw [hm] at hfind
      have hj := mapIdx_lt hm
      have hj2 : j < ents.toList.length := by rw [← g2.1]; exact hj
      have hj3 : j < ents.size := by simpa using hj2
      simp only [Option.bind_some, List.getElem?_eq_getElem hj2, Option.map_some, Nat.zero_add] at hfind
      obtain ⟨e0, he0, hs0⟩ := mapIdx_same hm
      obtain ⟨q1, q2, q3⟩ := g2.2 j e0 _ he0 (List.getElem?_eq_getElem hj2)
      obtain ⟨hsb, hke⟩ := sameBits_of hkv q1 hil q2 hs0 10000
      refine ⟨ents.modify j fun e => { e with key := a.eval i, val := a.eval y }, clock, ?_, ?_⟩
      · have hkk : ((ents[j]?).map (·.key)).getD (a.eval i) = (ents.toList[j]).key := by simp [hj3]
        simp only [Instr.mapUpdate, Sem.run_bind, run_underlying ht, Result.andThen_ok, MapKept.run_getObj_map g1, MapKept.run_checkKey hkt hkey _ 9999, MapKept.run_findKey hkt hfind, Instr.keyThatStays, hkk, hsb, if_true, Sem.run_pure, MapKept.run_setObj_map _ g1]
      · refine ⟨by simp [g2.1], fun j' e u he hu => ?_⟩
        rw [List.getElem?_modify] at he
        rw [Array.getElem?_toList, Array.getElem?_modify] at hu
        by_cases hjj : j = j'
        · subst hjj
          rw [he0] at he
          rw [if_pos rfl, Array.getElem?_eq_getElem hj3] at hu
          simp at he hu
          subst he; subst hu
          exact ⟨by rw [← hke]; exact hkv, by rw [← hke]; exact hil, hyl⟩
        · rw [if_neg hjj] at hu
          have he : es[j']? = some e := by
            cases hq : es[j']? with
            | none => rw [hq] at he; simp at he
            | some e1 => rw [hq] at he; simp [hjj] at he; rw [he]
          exact g2.2 j' e u he (by simpa using hu)
  obtain ⟨ents', clock', hr, hents⟩ := hrun
  obtain ⟨s1, s2⟩ := MapKept.heap_set (o' := .map ents' clock') g1
  intro K hK Q
  refine wp_skipv (w' := { w with heap := w.heap.setIfInBounds b (.map ents' clock') }) ?_ (hK β _ _ (RR.put (h.over hk (o' := .map kk (mapSet es kv vv)) (w' := { w with heap := w.heap.setIfInBounds b (.map ents' clock') }) trivial g0 (by simp) (fun b' hne => s2 b' hne) ⟨rfl, rfl, rfl⟩ ?_) o.dst .dead undef hd (.dead _)))
  · rcases ho with ho | ho <;> simp only [execOp, ho, Sem.run_bind, hr, Result.andThen_ok, Sem.run_pure]
  · exact ⟨b, ents', clock', g0, s1, hents.mono (keeps_other hk g0 s2) (fun b' hb' => (over_ok hk (by simp) b').2 hb')⟩

end
end Go.Av
