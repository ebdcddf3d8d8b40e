/- The operations of the two texts held against each other, and that the abstract one is the machine's. -/
import Derived.Test.YtkcilagjhieapaaBvC
import Derived.Laws.StructEq
set_option linter.unusedVariables false
set_option linter.unusedSimpArgs false
namespace Go.Av

def elemI (P : Program) (t : TypeId) : Option TypeInfo := match P.underlying t with
  | some (.slice e) => P.info? e
  | _ => none

theorem elemI_spec {P : Program} {t : TypeId} {i : TypeInfo} (h : elemI P t = some i) : ∃ e, P.underlying t = some (.slice e) ∧ P.info? e = some i := by
  unfold elemI at h
  split at h
  · rename_i e he; exact ⟨e, he, h⟩
  · cases h

/-- A row element's zero. -/
def agreeV : Value → PV → Bool
  | .agg us, .agg xs => all2 agreeC us.toList xs && xs.all PV.one
  | .slice none 0 0, .slice [] => true
  | v, x => agreeC v x

theorem all2C {w : World} {ok : Nat → Prop} {vs : List Value} {xs : List PV} (h : all2 agreeC vs xs = true) : xs.length = vs.length ∧ ∀ (j : Nat) (x : PV) (v : Value), xs[j]? = some x → vs[j]? = some v → Lies w ok x v := by
  induction vs generalizing xs with
  | nil => cases xs with
    | nil => simp
    | cons _ _ => simp [all2] at h
  | cons v vs ih => cases xs with
    | nil => simp [all2] at h
    | cons x xs =>
      simp only [all2, Bool.and_eq_true] at h
      obtain ⟨i1, i2⟩ := ih h.2
      refine ⟨by simp [i1], fun j y u hy hu => ?_⟩
      cases j with
      | zero => simp at hy hu; subst hy; subst hu; exact agreeC_lies h.1
      | succ j => exact i2 j y u (by simpa using hy) (by simpa using hu)

theorem agreeV_lies {v : Value} {x : PV} (h : agreeV v x = true) (w : World) (ok : Nat → Prop) : Lies w ok x v := by
  unfold agreeV at h
  split at h
  · rename_i us xs
    simp only [Bool.and_eq_true, List.all_eq_true] at h
    obtain ⟨e1, e2⟩ := all2C (w := w) (ok := ok) h.1
    have := Lies.agg (w := w) (ok := ok) xs us.toList e1 h.2 e2
    simpa using this
  · exact .slice [] none 0 0 0 (fun _ _ => undef) rfl (Nat.le_refl _) (by simp) (by simp) (by intro i j hi; omega) (by omega) (by simp)
  · exact agreeC_lies h

def agMov (x' : Opd) : Op → Bool
  | .move x => agreeO x x'
  | .assign x => agreeO x x'
  | _ => false
def agPick (c' x' y' : Opd) : Op → Bool
  | .pick c x y => agreeO c c' && agreeO x x' && agreeO y y'
  | _ => false
def agAlloc (P : Program) (zero : List SV) : Op → Bool
  | .alloc t => match P.info? t with
    | some i => match i.zero with
      | some z => all2 agreeZ z.cells.toList zero
      | none => false
    | none => false
  | _ => false
def agBox (x' : Opd) : Op → Bool
  | .box _ x => agreeO x x'
  | _ => false
def agLoad (P : Program) (agg : Bool) (n : Nat) (x' : Opd) : Op → Bool
  | .load t x => aggT P t == some (agg, n) && agreeO x x'
  | _ => false
def agStore (P : Program) (n : Nat) (x' y' : Opd) : Op → Bool
  | .store t x y => match P.info? t with
    | some i => i.size == n && agreeO x x' && agreeO y y'
    | none => false
  | _ => false
def agBin (P : Program) (bl : Bool) (op' : BinOp) (x' y' : Opd) : Op → Bool
  | .binOp op t x y _ => op == op' && agreeO x x' && agreeO y y' && (match P.underlying t with | some .bool => bl | some (.int _) | some .string => !bl | _ => false)
  | _ => false
/-- The kinds of a struct's cells, by its fields. -/
def flatGo (P : Program) (inner : List Field → Option (List EK)) : Nat → List Field → Option (List EK)
  | _, [] => some []
  | n, f :: fs =>
    bif f.name != "_" && f.offset == n then
      (match aggT P f.type, P.underlying f.type with
        | some (false, 1), some (.int _) => (flatGo P inner (n + 1) fs).map (EK.i :: ·)
        | some (false, 1), some .bool => (flatGo P inner (n + 1) fs).map (EK.b :: ·)
        | some (false, 1), some .string => (flatGo P inner (n + 1) fs).map (EK.s :: ·)
        | some (true, k), some (.struct gs) => match inner gs.toList, flatGo P inner (n + k) fs with
          | some a, some b => bif !P.stoodInHeld f.type && a.length == k then some (a ++ b) else none
          | _, _ => none
        | _, _ => none) else none
def flatE (P : Program) : Nat → List Field → Option (List EK)
  | 0 => fun _ => none
  | d + 1 => fun fs => flatGo P (flatE P d) 0 fs
def agEqs (P : Program) (neg : Bool) (ks : List EK) (x' y' : Opd) : Op → Bool
  | .binOp op t x y _ => (bif neg then op == .neq else op == .eql) && (match P.underlying t with
    | some (.struct fs) => !P.stoodInHeld t && !P.eqGuardType P.depth t && flatE P 8 fs.toList == some ks
    | _ => false) && agreeO x x' && agreeO y y'
  | _ => false
def agUn (op' : UnOp) (x' : Opd) : Op → Bool
  | .unOp op _ x => op == op' && agreeO x x'
  | _ => false
def agConv (P : Program) (k : IntKind) (x' : Opd) : Op → Bool
  | .convert s t x => (P.underlying s).isSome && (match P.underlying t with | some (.int k') => decide (k = k') | _ => false) && agreeO x x'
  | _ => false
def agFld (P : Program) (off : Nat) (x' : Opd) : Op → Bool
  | .fieldAddr s x f => match P.underlying s with
    | some (.struct fs) => match fs[f]? with
      | some fd => match P.info? fd.type with
        | some i => fd.offset == off && i.size != 0 && agreeO x x'
        | none => false
      | none => false
    | _ => false
  | _ => false
def agPart (P : Program) (agg : Bool) (off n : Nat) (x' : Opd) : Op → Bool
  | .field s x f => match P.underlying s with
    | some (.struct fs) => match fs[f]? with
      | some fd => fd.offset == off && aggT P fd.type == some (agg, n) && agreeO x x'
      | none => false
    | _ => false
  | _ => false
def agIdx (P : Program) (sz : Nat) (x' i' : Opd) : Op → Bool
  | .indexAddr t x i => match elemI P t with
    | some it => it.size == sz && sz != 0 && agreeO x x' && agreeO i i'
    | none => false
  | _ => false
def agSidx (P : Program) (x' i' : Opd) : Op → Bool
  | .index t x i => (match P.underlying t with | some .string => true | _ => false) && agreeO x x' && agreeO i i'
  | _ => false
def agExt (i' : Nat) (x' : Opd) : Op → Bool
  | .extract x i => i == i' && agreeO x x'
  | _ => false
def agBuild (P : Program) (zero : List SV) (parts' : List (Nat × Nat × Opd)) : Op → Bool
  | .build t parts => match P.info? t, P.underlying t with
    | some it, some (.struct fields) => match it.zero, fields.toList.mapM (fun f => (P.info? f.type).map fun i => (f.offset, i.size)) with
      | some z, some places => all2 agreeZ z.cells.toList zero && all2P (agreePart places) parts.toList parts'
      | _, _ => false
    | _, _ => false
  | _ => false
def agLit (P : Program) (sz : Nat) (xs : List Opd) : Op → Bool
  | .buildSlice t len parts => match elemI P t with
    | some it => it.zero.isSome && it.size == sz && sz != 0 && len == xs.length && decide (len * sz ≤ 2 ^ 24) && agreeLit 0 parts.toList xs
    | none => false
  | _ => false
def agMk (P : Program) (sz bytes : Nat) (zero : PV) (n' c' : Opd) : Op → Bool
  | .makeSlice t n c => match elemI P t with
    | some it => match it.zero with
      | some z => it.size == sz && it.bytes == bytes && sz != 0 && agreeV z zero && zero.cells.length == sz && agreeO n n' && agreeO c c'
      | none => false
    | none => false
  | _ => false
def agSlc (P : Program) (s : Bool) (sz : Nat) (x' : Opd) (lo' hi' : Option Opd) : Op → Bool
  | .slice t x lo hi none => (bif s then (match P.underlying t with | some .string => true | _ => false) else (match elemI P t with | some i => i.size == sz | none => false)) &&
      agreeO x x' && agreeOpt agreeO lo lo' && agreeOpt agreeO hi hi'
  | _ => false
def agLen (P : Program) (s : Bool) (x' : Opd) : Op → Bool
  | .call c => match c.callee, c.args.toList, c.argTypes.toList with
    | .builtin .len, [x], [t] => (match P.underlying t with | some .string => s | some (.slice _) => !s | _ => false) && agreeO x x'
    | _, _, _ => false
  | _ => false
def agMm (mx : Bool) (x' : Opd) (xs' : List Opd) : Op → Bool
  | .call c => match c.callee, c.args.toList with
    | .builtin b, x :: xs => (b == (bif mx then .max else .min)) && agreeO x x' && all2 agreeO xs xs'
    | _, _ => false
  | _ => false
def agFn (f' : FuncId) (caps' : List Opd) : Op → Bool
  | .makeFunc (.func f) first caps => f == f' && first.isEmpty && all2 agreeO caps.toList caps'
  | _ => false
def agCall (f' : Opd) (args' : List Opd) : Op → Bool
  | .call c => match c.callee with
    | .value fo => agreeO fo f' && all2 agreeO c.args.toList args'
    | _ => false
  | _ => false
def agApp (P : Program) (sz bytes : Nat) (x' y' : Opd) : Op → Bool
  | .call c => match c.callee, c.args.toList, c.argTypes.toList with
    | .builtin .append, [x, y], [t, t'] => t == t' && (match elemI P t with
      | some i => match i.zero with
        | some z => i.size == sz && i.bytes == bytes && z.cells.size == sz && sz != 0
        | none => false
      | none => false) && agreeO x x' && agreeO y y'
    | _, _, _ => false
  | _ => false

/-- A map's keys. -/
def keysAre (P : Program) (kk : KK) (t : TypeId) : Bool := match P.underlying t with
  | some (.map kt _) => (match P.underlying kt with | some d => kk.is d | none => false)
  | _ => false
/-- A map's keys are of a plain kind. -/
def mapOf (P : Program) (t : TypeId) : Option (TypeDesc × TypeInfo) := match P.underlying t with
  | some (.map kt et) => (match P.underlying kt, P.info? et with | some d, some it => some (d, it) | _, _ => none)
  | _ => none
theorem mapOf_spec {P : Program} {t : TypeId} {d : TypeDesc} {it : TypeInfo} (h : mapOf P t = some (d, it)) : ∃ kt et, P.underlying t = some (.map kt et) ∧ P.underlying kt = some d ∧ P.info? et = some it := by
  unfold mapOf at h
  split at h
  · rename_i kt et ht
    split at h
    · rename_i d' it' h1 h2
      simp only [Option.some.injEq, Prod.mk.injEq] at h
      obtain ⟨rfl, rfl⟩ := h
      exact ⟨kt, et, ht, h1, h2⟩
    · cases h
  · cases h
def agMkmap : Op → Bool
  | .makeMap _ none => true
  | _ => false
def agMlook (P : Program) (kk : KK) (ok : Bool) (zero : PV) (x' k' : Opd) : Op → Bool
  | .lookup t x k o => match mapOf P t with
    | some (d, it) => match it.zero with
      | some z => kk.is d && agreeV z zero && o == ok && agreeO x x' && agreeO k k'
      | none => false
    | none => false
  | _ => false
def agMset (P : Program) (kk : KK) (x' k' v' : Opd) : Op → Bool
  | .mapUpdate t x k v => match mapOf P t with
    | some (d, _) => kk.is d && agreeO x x' && agreeO k k' && agreeO v v'
    | none => false
  | .insert t x k v => match mapOf P t with
    | some (d, _) => kk.is d && agreeO x x' && agreeO k k' && agreeO v v'
    | none => false
  | _ => false
def agMlen (P : Program) (x' : Opd) : Op → Bool
  | .call c => match c.callee, c.args.toList, c.argTypes.toList with
    | .builtin .len, [x], [t] => (match P.underlying t with | some (.map _ _) => true | _ => false) && agreeO x x'
    | _, _, _ => false
  | _ => false

/-- Do the two texts say one thing? -/
def agree (P : Program) : AOp → Op → Bool
  | .mov x => agMov x
  | .pick c a b => agPick c a b
  | .alloc z => agAlloc P z
  | .box x => agBox x
  | .load agg n x => agLoad P agg n x
  | .store n a v => agStore P n a v
  | .bin bl op x y => agBin P bl op x y
  | .eqs neg ks x y => agEqs P neg ks x y
  | .un op x => agUn op x
  | .conv k x => agConv P k x
  | .fld off x => agFld P off x
  | .part agg off n x => agPart P agg off n x
  | .idx sz x i => agIdx P sz x i
  | .sidx x i => agSidx P x i
  | .ext i x => agExt i x
  | .build z ps => agBuild P z ps
  | .lit _ sz xs => agLit P sz xs
  | .mk sz by' z n c => agMk P sz by' z n c
  | .slc s sz x lo hi => agSlc P s sz x lo hi
  | .len s x => agLen P s x
  | .mm mx x xs => agMm mx x xs
  | .mkfn f caps => agFn f caps
  | .call _ _ f args _ ln => fun o => decide ln.Nodup && agCall f args o
  | .append _ sz by' x y => agApp P sz by' x y
  | .ins .. => fun _ => false
  | .mkmap _ => agMkmap
  | .mlook kk ok zero x k => agMlook P kk ok zero x k
  | .mset kk x k v => agMset P kk x k v
  | .mlen x => agMlen P x
  | .stuck => fun _ => true

section
variable {P : Program} {C : Ctx} {β : Key → Blk} {σ : St} {a : Act} {w : World} {o : Oper}

theorem sameL_append : ∀ {ka kb : List EK} {as bs : List PV} {r : Bool}, sameL (ka ++ kb) as bs = some r → ∃ ra rb, sameL ka (as.take ka.length) (bs.take ka.length) = some ra ∧ sameL kb (as.drop ka.length) (bs.drop ka.length) = some rb ∧ r = (ra && rb) ∧ ka.length ≤ as.length ∧ ka.length ≤ bs.length
  | [], kb, as, bs, r, h => ⟨true, r, by simp [sameL], by simpa using h, by simp, Nat.zero_le _, Nat.zero_le _⟩
  | k :: ka, kb, as, bs, r, h => by
    simp only [List.cons_append] at h
    cases k with
    | i =>
      cases as with
      | nil => simp [sameL] at h
      | cons x as => cases bs with
        | nil => cases x <;> simp [sameL] at h
        | cons y bs =>
          cases x <;> cases y <;> simp only [sameL] at h <;> try (cases h; done)
          split at h
          · rename_i hk
            simp only [Option.map_eq_some_iff] at h
            obtain ⟨q, hq, rfl⟩ := h
            obtain ⟨ra, rb, h1, h2, h3, h4, h5⟩ := sameL_append hq
            exact ⟨_, rb, by simp only [List.length_cons, List.take_succ_cons, sameL, if_pos hk, h1, Option.map_some]; rfl, by simpa using h2, by rw [h3, Bool.and_assoc], by simpa using h4, by simpa using h5⟩
          · cases h
    | b =>
      cases as with
      | nil => simp [sameL] at h
      | cons x as => cases bs with
        | nil => cases x <;> simp [sameL] at h
        | cons y bs =>
          cases x <;> cases y <;> simp only [sameL] at h <;> try (cases h; done)
          simp only [Option.map_eq_some_iff] at h
          obtain ⟨q, hq, rfl⟩ := h
          obtain ⟨ra, rb, h1, h2, h3, h4, h5⟩ := sameL_append hq
          exact ⟨_, rb, by simp only [List.length_cons, List.take_succ_cons, sameL, h1, Option.map_some]; rfl, by simpa using h2, by rw [h3, Bool.and_assoc], by simpa using h4, by simpa using h5⟩
    | s =>
      cases as with
      | nil => simp [sameL] at h
      | cons x as => cases bs with
        | nil => cases x <;> simp [sameL] at h
        | cons y bs =>
          cases x <;> cases y <;> simp only [sameL] at h <;> try (cases h; done)
          simp only [Option.map_eq_some_iff] at h
          obtain ⟨q, hq, rfl⟩ := h
          obtain ⟨ra, rb, h1, h2, h3, h4, h5⟩ := sameL_append hq
          exact ⟨_, rb, by simp only [List.length_cons, List.take_succ_cons, sameL, h1, Option.map_some]; rfl, by simpa using h2, by rw [h3, Bool.and_assoc], by simpa using h4, by simpa using h5⟩

/-- One field, and the rest. -/
theorem run_eqFields_cons {d : Nat} {us vs : List Value} {f : Field} {fs : List Field} {u v : Value} {q r : Bool} (hn : f.name ≠ "_") (hu : (part f.type us.toArray f.offset).run P w = .ok u w) (hv : (part f.type vs.toArray f.offset).run P w = .ok v w)
    (he : (Op.equalIn d f.type u v).run P w = .ok q w) (hr : (Op.eqFields d us.toArray vs.toArray fs).run P w = .ok r w) : (Op.eqFields d us.toArray vs.toArray (f :: fs)).run P w = .ok (q && r) w := by
  simp only [Op.eqFields, ne_eq, hn, not_false_eq_true, if_true, Sem.run_bind, hu, hv, Result.andThen_ok, he]
  cases q with
  | true => simpa using hr
  | false => simp

/-- What a nested struct's comparison comes to. -/
def EqIn (P : Program) (ok : Nat → Prop) (w : World) (d : Nat) (inner : List Field → Option (List EK)) : Prop :=
  ∀ (t : TypeId) (gs : Array Field) (ka : List EK) (as bs : List PV) (r : Bool) (us vs : List Value), P.underlying t = some (.struct gs) → P.stoodInHeld t = false → inner gs.toList = some ka → sameL ka as bs = some r →
    as.length = us.length → bs.length = vs.length → (∀ (j : Nat) (x : PV) (u : Value), as[j]? = some x → us[j]? = some u → Lies w ok x u) → (∀ (j : Nat) (x : PV) (u : Value), bs[j]? = some x → vs[j]? = some u → Lies w ok x u) →
    (Op.equalIn (d + 1) t (.agg us.toArray) (.agg vs.toArray)).run P w = .ok r w

theorem run_flatGo {ok : Nat → Prop} {d : Nat} {inner : List Field → Option (List EK)} (hin : EqIn P ok w d inner) : ∀ (fs : List Field) (n : Nat) (ks : List EK) (as bs : List PV) (r : Bool) (us vs : List Value), flatGo P inner n fs = some ks → sameL ks as bs = some r →
    as.length + n = us.length → bs.length + n = vs.length → (∀ (j : Nat) (x : PV) (u : Value), as[j]? = some x → us[n + j]? = some u → Lies w ok x u) → (∀ (j : Nat) (x : PV) (u : Value), bs[j]? = some x → vs[n + j]? = some u → Lies w ok x u) →
    (Op.eqFields (d + 1) us.toArray vs.toArray fs).run P w = .ok r w := by
  intro fs
  induction fs with
  | nil =>
    intro n ks as bs r us vs hf hs _ _ _ _
    simp only [flatGo, Option.some.injEq] at hf; subst hf
    cases as <;> cases bs <;> simp only [sameL] at hs <;> try (cases hs; done)
    cases hs
    simp [Op.eqFields]
  | cons f fs ih =>
    intro n ks as bs r us vs hf hs h1 h2 l1 l2
    simp only [flatGo] at hf
    cases hc : (f.name != "_" && f.offset == n) with
    | false => rw [hc] at hf; cases hf
    | true =>
      rw [hc, cond_true] at hf
      simp only [Bool.and_eq_true, bne_iff_ne, beq_iff_eq] at hc
      obtain ⟨hn, hoff⟩ := hc
      have hpart : aggT P f.type = some (false, 1) → ∀ (us : List Value) (u : Value), us[n]? = some u → (part f.type us.toArray f.offset).run P w = .ok u w := fun hagg us u hu => by
        have hlt := (List.getElem?_eq_some_iff.1 hu).1
        refine run_part (agg := false) (n := 1) hagg (by omega) ?_
        rw [hoff, List.drop_eq_getElem_cons hlt]
        have := (List.getElem?_eq_some_iff.1 hu).2
        simp [ofVals, this]
      have one : aggT P f.type = some (false, 1) → ∀ (x y : PV) (as' bs' : List PV) (ks' : List EK) (q q' : Bool), as = x :: as' → bs = y :: bs' → flatGo P inner (n + 1) fs = some ks' → sameL ks' as' bs' = some q' → r = (q && q') →
          (∀ u v, Lies w ok x u → Lies w ok y v → (Op.equalIn (d + 1) f.type u v).run P w = .ok q w) → (Op.eqFields (d + 1) us.toArray vs.toArray (f :: fs)).run P w = .ok r w := by
        intro hagg x y as' bs' ks' q q' ea eb hk hq hr heq
        subst ea; subst eb; subst hr
        have hu : us[n]? = some (us[n]'(by simp at h1; omega)) := List.getElem?_eq_getElem _
        have hv : vs[n]? = some (vs[n]'(by simp at h2; omega)) := List.getElem?_eq_getElem _
        refine run_eqFields_cons hn (hpart hagg us _ hu) (hpart hagg vs _ hv) (heq _ _ (l1 0 x _ rfl hu) (l2 0 y _ rfl hv)) ?_
        exact ih (n + 1) ks' as' bs' q' us vs hk hq (by simp at h1; omega) (by simp at h2; omega) (fun j x u hx hu => l1 (j + 1) x u (by simpa using hx) (by rw [show n + (j + 1) = n + 1 + j by omega]; exact hu))
          (fun j x u hx hu => l2 (j + 1) x u (by simpa using hx) (by rw [show n + (j + 1) = n + 1 + j by omega]; exact hu))
      split at hf
      · rename_i k0 hagg ht
        simp only [Option.map_eq_some_iff] at hf
        obtain ⟨ks', hk, rfl⟩ := hf
        cases as with
        | nil => simp [sameL] at hs
        | cons x as' => cases bs with
          | nil => cases x <;> simp [sameL] at hs
          | cons y bs' =>
            cases x <;> cases y <;> simp only [sameL] at hs <;> try (cases hs; done)
            split at hs
            · rename_i hk'
              subst hk'
              simp only [Option.map_eq_some_iff] at hs
              obtain ⟨q', hq, rfl⟩ := hs
              refine one hagg _ _ as' bs' ks' _ q' rfl rfl hk hq rfl (fun u v hu hv => ?_)
              cases hu; cases hv
              exact run_equalIn_int w d f.type _ k0 _ _ ht
            · cases hs
      · rename_i hagg ht
        simp only [Option.map_eq_some_iff] at hf
        obtain ⟨ks', hk, rfl⟩ := hf
        cases as with
        | nil => simp [sameL] at hs
        | cons x as' => cases bs with
          | nil => cases x <;> simp [sameL] at hs
          | cons y bs' =>
            cases x <;> cases y <;> simp only [sameL] at hs <;> try (cases hs; done)
            simp only [Option.map_eq_some_iff] at hs
            obtain ⟨q', hq, rfl⟩ := hs
            refine one hagg _ _ as' bs' ks' _ q' rfl rfl hk hq rfl (fun u v hu hv => ?_)
            cases hu; cases hv
            exact run_equalIn_bool' w d f.type _ _ ht
      · rename_i hagg ht
        simp only [Option.map_eq_some_iff] at hf
        obtain ⟨ks', hk, rfl⟩ := hf
        cases as with
        | nil => simp [sameL] at hs
        | cons x as' => cases bs with
          | nil => cases x <;> simp [sameL] at hs
          | cons y bs' =>
            cases x <;> cases y <;> simp only [sameL] at hs <;> try (cases hs; done)
            simp only [Option.map_eq_some_iff] at hs
            obtain ⟨q', hq, rfl⟩ := hs
            refine one hagg _ _ as' bs' ks' _ q' rfl rfl hk hq rfl (fun u v hu hv => ?_)
            cases hu; cases hv
            rw [run_equalIn_string w d f.type _ _ ht, bytes_toList, bytes_toList]
      · rename_i k gs hagg ht
        split at hf
        · rename_i ka kb ha hb
          cases hc2 : (!P.stoodInHeld f.type && ka.length == k) with
          | false => rw [hc2] at hf; cases hf
          | true =>
            rw [hc2, cond_true] at hf
            simp only [Bool.and_eq_true, Bool.not_eq_true', beq_iff_eq] at hc2
            obtain ⟨hst, rfl⟩ := hc2
            simp only [Option.some.injEq] at hf; subst hf
            obtain ⟨ra, rb, s1, s2, rfl, s4, s5⟩ := sameL_append hs
            have hp : ∀ us : List Value, n + ka.length ≤ us.length → (part f.type us.toArray f.offset).run P w = .ok (.agg ((us.drop n).take ka.length).toArray) w := fun us hle =>
              run_part (agg := true) (n := ka.length) hagg (by rw [hoff]; exact hle) (by rw [hoff]; rfl)
            refine run_eqFields_cons hn (hp us (by omega)) (hp vs (by omega)) (hin f.type gs ka _ _ ra _ _ ht hst ha s1 (by simp; omega) (by simp; omega) (fun j x u hx hu => ?_) (fun j x u hx hu => ?_)) ?_
            · simp only [List.getElem?_take, List.getElem?_drop] at hx hu
              split at hx
              · rename_i hj; rw [if_pos hj] at hu; exact l1 j x u hx hu
              · cases hx
            · simp only [List.getElem?_take, List.getElem?_drop] at hx hu
              split at hx
              · rename_i hj; rw [if_pos hj] at hu; exact l2 j x u hx hu
              · cases hx
            · exact ih (n + ka.length) kb _ _ rb us vs hb s2 (by simp; omega) (by simp; omega) (fun j x u hx hu => l1 (ka.length + j) x u (by simpa using hx) (by rw [show n + (ka.length + j) = n + ka.length + j by omega]; exact hu))
                (fun j x u hx hu => l2 (ka.length + j) x u (by simpa using hx) (by rw [show n + (ka.length + j) = n + ka.length + j by omega]; exact hu))
        · cases hf
      · cases hf

theorem eqIn {ok : Nat → Prop} : ∀ (D d : Nat), D ≤ d → EqIn P ok w d (flatE P D)
  | 0, d, _ => fun t gs ka as bs r us vs _ _ h => by cases h
  | D + 1, d + 1, hle => fun t gs ka as bs r us vs ht hst h hs h1 h2 l1 l2 => by
    have hfo : P.fieldsOf t = gs := by simp [Program.fieldsOf, ht]
    rw [run_equalIn_agg (P := P) w (d + 1) t us.toArray vs.toArray (by rw [hfo]; exact ht) hst, hfo]
    exact run_flatGo (eqIn D d (by omega)) gs.toList 0 ka as bs r us vs h hs (by omega) (by omega) (fun j x u hx hu => l1 j x u hx (by simpa using hu)) (fun j x u hx hu => l2 j x u hx (by simpa using hu))
  | D + 1, 0, hle => by omega

theorem sound_eqs (h : RR C β σ a w) (hd : ∀ i, o.dst = some i → i < C.nt) {op : BinOp} {t t2 : TypeId} {x y : Operand} {x' y' : Opd} {neg : Bool} {ks : List EK} (ho : o.op = .binOp op t x y t2) (hop : (bif neg then op == .neq else op == .eql) = true) {fs : Array Field}
    (hs : P.underlying t = some (.struct fs)) (hst : P.stoodInHeld t = false) (hg : P.eqGuardType P.depth t = false) (hf : flatE P 8 fs.toList = some ks) (hx : agreeO x x' = true) (hy : agreeO y y' = true) {as bs : List PV} (ex : σ.ev x' = .pv (.agg as)) (ey : σ.ev y' = .pv (.agg bs)) {b : Bool} (hb : sameL ks as bs = some b) :
    StepOK P C ((σ.insAll []).put o.dst (.pv (.bool (bif neg then !b else b)))) o a w := by
  have hxl := h.ev hx
  have hyl := h.ev hy
  rw [ex] at hxl
  rw [ey] at hyl
  have hxl := slies_pv hxl
  have hyl := slies_pv hyl
  obtain ⟨us, hxe, u1, u2⟩ : ∃ us : List Value, a.eval x = .agg us.toArray ∧ as.length = us.length ∧ ∀ (j : Nat) (x : PV) (u : Value), as[j]? = some x → us[j]? = some u → Lies w (okB C β σ.look w) x u := by
    generalize a.eval x = xv at hxl
    cases hxl with
    | agg _ us hl _ hh => exact ⟨us, rfl, hl, hh⟩
  obtain ⟨vs, hye, v1, v2⟩ : ∃ us : List Value, a.eval y = .agg us.toArray ∧ bs.length = us.length ∧ ∀ (j : Nat) (x : PV) (u : Value), bs[j]? = some x → us[j]? = some u → Lies w (okB C β σ.look w) x u := by
    generalize a.eval y = xv at hyl
    cases hyl with
    | agg _ us hl _ hh => exact ⟨us, rfl, hl, hh⟩
  have heq := eqIn (P := P) (w := w) (ok := okB C β σ.look w) 8 9999 (by omega) t fs ks as bs b us vs hs hst hf hb u1 v1 u2 v2
  have hgd := run_eqGuard_agg (P := P) w op t x y us.toArray vs.toArray hg
  refine StepOK.value h hd (v := .bool (bif neg then !b else b)) ?_ (.pv _ _ (.bool _))
  cases neg with
  | true =>
    simp only [cond_true, beq_iff_eq] at hop
    subst hop
    have hr := run_neq_struct (P := P) w t us.toArray vs.toArray
    rw [heq] at hr
    simp only [execOp, ho, Sem.run_bind, hxe, hye, hgd, Result.andThen_ok, hr, Sem.run_pure, cond_true]
  | false =>
    simp only [cond_false, beq_iff_eq] at hop
    subst hop
    have hr := run_eql_struct (P := P) w t us.toArray vs.toArray
    rw [heq] at hr
    simp only [execOp, ho, Sem.run_bind, hxe, hye, hgd, Result.andThen_ok, hr, Sem.run_pure, cond_false]

/-- An empty literal: a row without room. -/
theorem sound_lit0 (h : RR C β σ a w) (hd : ∀ i, o.dst = some i → i < C.nt) {t e : TypeId} {len : Nat} {parts : Array (Nat × Operand)} (ho : o.op = .buildSlice t len parts) (ht : P.underlying t = some (.slice e)) {it : TypeInfo} (hit : P.info? e = some it) (hlen : len = 0)
    (hag : agreeLit 0 parts.toList [] = true) : StepOK P C ((σ.insAll []).put o.dst .nils) o a w := by
  subst hlen
  have hp : parts = #[] := by
    cases hl : parts.toList with
    | nil => simpa using hl
    | cons _ _ => rw [hl] at hag; simp [agreeLit] at hag
  subst hp
  refine StepOK.bare h hd (.cells #[] e) (v := .slice (some ⟨w.heap.size, 0, none⟩) 0 0) ?_ ?_
  · simp [execOp, ho, Instr.buildSlice, run_underlying ht, sizeOf, typeInfo, hit, Instr.fill, newRow, run_newObj_alloc]
    congr 2
    apply Array.eq_empty_of_size_eq_zero
    simp
  · intros; exact .nils _

theorem stepA_sound {cl : Callee} (hS : Sound P cl) (h : RR C β σ a w) (hd : ∀ i, o.dst = some i → i < C.nt) {op : AOp} (hag : agree P op o.op = true) {d : Nat} {e : Eff} (he : aeff cl σ d op = some e) (hfr : ∀ k ∈ op.keys d, σ.look k = none) :
    StepOK P C ((σ.insAll e.ins).put o.dst e.v) o a w := by
  cases op with
  | mov x =>
    simp only [aeff, Option.some.injEq] at he; subst he
    simp only [agree] at hag
    unfold agMov at hag
    split at hag
    · rename_i ho; exact sound_mov h hd (.inl ho) hag
    · rename_i ho; exact sound_mov h hd (.inr ho) hag
    · cases hag
  | pick c x y =>
    simp only [aeff] at he
    simp only [agree] at hag
    unfold agPick at hag
    split at hag
    · rename_i ho
      simp only [Bool.and_eq_true] at hag
      split at he
      · rename_i t ht
        simp only [Option.some.injEq] at he; subst he
        exact sound_pick h hd ho hag.1.1 hag.1.2 hag.2 ht
      · cases he
    · cases hag
  | alloc zero =>
    simp only [aeff, Option.some.injEq] at he; subst he
    simp only [agree] at hag
    unfold agAlloc at hag
    split at hag
    · rename_i ho
      split at hag
      · rename_i i hi
        split at hag
        · rename_i z hz
          exact sound_alloc h hd ho hi hz hag (.loc d 0) (by intro i e; cases e) (hfr _ (by simp [AOp.keys]))
        · cases hag
      · cases hag
    · cases hag
  | box x =>
    simp only [agree] at hag
    unfold agBox at hag
    split at hag
    · rename_i ho
      simp only [aeff] at he
      split at he
      · cases he
      · cases he
      · rename_i v n1 n2
        simp only [Option.some.injEq] at he; subst he
        exact sound_box h hd ho hag n1 n2 (.loc d 0) (by intro i e; cases e) (hfr _ (by simp [AOp.keys]))
    · cases hag
  | load agg n x =>
    simp only [agree] at hag
    unfold agLoad at hag
    split at hag
    · rename_i ho
      simp only [Bool.and_eq_true, beq_iff_eq] at hag
      have : loadS σ agg n (σ.ev x) = some e.v ∧ e.ins = [] := by
        revert he
        simp only [aeff, loadS]
        generalize σ.ev x = xv
        intro he
        cases xv <;> simp only at he <;> try (cases he; done)
        · split at he
          · split at he
            · rename_i heq hle; simp only [Option.map_eq_some_iff] at he; obtain ⟨v, hv, rfl⟩ := he; simp only [heq, hle, if_true]; exact ⟨hv, trivial⟩
            · cases he
          · cases he
        · split at he
          · rename_i sz1 xs1 hk1
            split at he
            · rename_i e2 he2
              split at he
              · rename_i hle; simp only [Option.map_eq_some_iff] at he; obtain ⟨v, hv, rfl⟩ := he; simp only [hk1, he2, hle, if_true]; exact ⟨hv, trivial⟩
              · cases he
            · cases he
          · cases he
        · split at he
          · rename_i hle; simp only [Option.map_eq_some_iff] at he; obtain ⟨v, hv, rfl⟩ := he; simp only [hle, if_true]; exact ⟨hv, trivial⟩
          · cases he
      rw [this.2]
      exact sound_load h hd ho hag.1 hag.2 this.1
    · cases hag
  | store n x y => simp [aeff] at he
  | bin bl op x y =>
    simp only [agree] at hag
    unfold agBin at hag
    split at hag
    · rename_i ho
      simp only [Bool.and_eq_true] at hag
      obtain ⟨⟨⟨h1, h2⟩, h3⟩, h4⟩ := hag
      have := beq_op h1; subst this
      simp only [aeff] at he
      split at he
      · rename_i p q hp hq
        cases hb : (p.isB == bl) with
        | false => rw [hb] at he; cases he
        | true =>
          rw [hb, cond_true] at he
          have hb := eq_of_beq hb
          simp only [Option.map_eq_some_iff] at he
          obtain ⟨v, hv, rfl⟩ := he
          refine sound_bin h hd ho h2 h3 (fun _ => ?_) hp hq hv
          cases bl with
          | true =>
            split at h4
            · rename_i ht; exact .inl ht
            · cases h4
            · cases h4
            · cases h4
          | false =>
            refine .inr (fun b e => ?_)
            rw [hp] at e; cases e; cases hb
      · cases he
    · cases hag
  | eqs neg ks x y =>
    simp only [agree] at hag
    unfold agEqs at hag
    split at hag
    · rename_i op t x1 y1 t2 ho
      simp only [Bool.and_eq_true] at hag
      obtain ⟨⟨⟨g1, g2⟩, g3⟩, g4⟩ := hag
      split at g2
      · rename_i fs hs
        simp only [Bool.and_eq_true, Bool.not_eq_true', beq_iff_eq] at g2
        simp only [aeff] at he
        split at he
        · rename_i as bs hx hy
          simp only [Option.map_eq_some_iff] at he
          obtain ⟨b, hb, rfl⟩ := he
          exact sound_eqs h hd ho g1 hs g2.1.1 g2.1.2 g2.2 g3 g4 hx hy hb
        · cases he
      · cases g2
    · cases hag
  | un op x =>
    simp only [agree] at hag
    unfold agUn at hag
    split at hag
    · rename_i ho
      simp only [Bool.and_eq_true] at hag
      have he1 : _ = _ := eq_of_beq hag.1; subst he1
      simp only [aeff] at he
      split at he
      · rename_i p hp
        simp only [Option.map_eq_some_iff] at he
        obtain ⟨v, hv, rfl⟩ := he
        exact sound_un h hd ho hag.2 hp hv
      · cases he
    · cases hag
  | conv k x =>
    simp only [agree] at hag
    unfold agConv at hag
    split at hag
    · rename_i ho
      simp only [Bool.and_eq_true] at hag
      obtain ⟨⟨h1, h2⟩, h3⟩ := hag
      split at h2
      · rename_i k' hk
        simp only [decide_eq_true_eq] at h2; subst h2
        simp only [aeff] at he
        split at he
        · rename_i k2 n hp
          simp only [Option.some.injEq] at he; subst he
          exact sound_conv h hd ho h3 h1 hk hp
        · cases he
      · cases h2
    · cases hag
  | fld off x =>
    simp only [agree] at hag
    unfold agFld at hag
    split at hag
    · rename_i ho
      split at hag
      · rename_i fs hs
        split at hag
        · rename_i fd hf
          split at hag
          · rename_i i hi
            simp only [Bool.and_eq_true, beq_iff_eq, bne_iff_ne] at hag
            have : (match σ.ev x with | .ptr k o => some (SV.ptr k (o + off)) | .ipv e o => some (.ipv e (o + off)) | .iown k i o => some (.iown k i (o + off)) | _ => none) = some e.v ∧ e.ins = [] := by
              simp only [aeff] at he
              generalize σ.ev x = xv at he ⊢
              cases xv <;> simp only [Option.some.injEq] at he <;> first | (cases he; done) | (subst he; exact ⟨rfl, rfl⟩)
            rw [this.2]
            exact sound_fld h hd ho hag.2 hs hf hag.1.1 hi hag.1.2 this.1
          · cases hag
        · cases hag
      · cases hag
    · cases hag
  | part agg off n x =>
    simp only [agree] at hag
    unfold agPart at hag
    split at hag
    · rename_i ho
      split at hag
      · rename_i fs hs
        split at hag
        · rename_i fd hf
          simp only [Bool.and_eq_true, beq_iff_eq] at hag
          have : (match σ.ev x with
              | .pv (.agg cs) => if off + n ≤ cs.length then SV.ofCells agg (((cs.drop off).take n).map .pv) else none
              | .agg cs => if off + n ≤ cs.length then SV.ofCells agg ((cs.drop off).take n) else none
              | _ => none) = some e.v ∧ e.ins = [] := by
            simp only [aeff] at he
            generalize σ.ev x = xv at he ⊢
            split at he
            · split at he
              · rename_i hle; simp only [Option.map_eq_some_iff] at he; obtain ⟨v, hv, rfl⟩ := he; simp only [hle, if_true]; exact ⟨hv, trivial⟩
              · cases he
            · split at he
              · rename_i hle; simp only [Option.map_eq_some_iff] at he; obtain ⟨v, hv, rfl⟩ := he; simp only [hle, if_true]; exact ⟨hv, trivial⟩
              · cases he
            · cases he
          rw [this.2]
          exact sound_part h hd ho hag.2 hs hf hag.1.1 hag.1.2 this.1
        · cases hag
      · cases hag
    · cases hag
  | idx sz x i =>
    simp only [agree] at hag
    unfold agIdx at hag
    split at hag
    · rename_i ho
      split at hag
      · rename_i it hit
        obtain ⟨e1, ht, hi1⟩ := elemI_spec hit
        simp only [Bool.and_eq_true, beq_iff_eq, bne_iff_ne] at hag
        obtain ⟨⟨⟨g1, g2⟩, g3⟩, g4⟩ := hag
        simp only [aeff] at he
        split at he
        · rename_i xs k n hx hn
          split at he
          · rename_i h0
            split at he
            · rename_i e2 he2
              split at he
              · rename_i hl
                simp only [Option.some.injEq] at he; subst he
                exact sound_idx h hd ho g3 g4 ht hi1 g1 g2 hn h0 (.inl ⟨xs, e2, hx, he2, hl, rfl⟩)
              · cases he
            · cases he
          · cases he
        · rename_i k1 k n hx hn
          split at he
          · rename_i sz' xs hk
            split at he
            · rename_i hc
              obtain ⟨h0, hlt, rfl⟩ := hc
              simp only [Option.some.injEq] at he; subst he
              exact sound_idx h hd ho g3 g4 ht hi1 g1 g2 hn h0 (.inr ⟨k1, xs, hx, hk, hlt, rfl⟩)
            · cases he
          · cases he
        · cases he
      · cases hag
    · cases hag
  | sidx x i =>
    simp only [agree] at hag
    unfold agSidx at hag
    split at hag
    · rename_i ho
      simp only [Bool.and_eq_true] at hag
      obtain ⟨⟨g1, g2⟩, g3⟩ := hag
      split at g1
      · rename_i ht
        simp only [aeff] at he
        split at he
        · rename_i s k n hx hn
          split at he
          · rename_i h0
            split at he
            · rename_i b hb
              simp only [Option.some.injEq] at he; subst he
              exact sound_sidx h hd ho g2 g3 ht hn h0 hx hb
            · cases he
          · cases he
        · cases he
      · cases g1
    · cases hag
  | ext i x =>
    simp only [agree] at hag
    unfold agExt at hag
    split at hag
    · rename_i ho
      simp only [Bool.and_eq_true, beq_iff_eq] at hag
      obtain ⟨rfl, g2⟩ := hag
      simp only [aeff] at he
      split at he
      · rename_i vs hx
        split at he
        · rename_i v hv
          simp only [Option.some.injEq] at he; subst he
          exact sound_ext h hd ho g2 hx hv
        · cases he
      · cases he
    · cases hag
  | build zero parts =>
    simp only [agree] at hag
    unfold agBuild at hag
    split at hag
    · rename_i ho
      split at hag
      · rename_i it fields hi hu
        split at hag
        · rename_i z places hz hpl
          simp only [Bool.and_eq_true] at hag
          simp only [aeff] at he
          cases hall : parts.all (fun p => (σ.ev p.2.2).solid) with
          | false => rw [hall] at he; cases he
          | true =>
            rw [hall, cond_true] at he
            split at he
            · rename_i cs hcs
              simp only [Option.map_eq_some_iff] at he
              obtain ⟨v, hv, rfl⟩ := he
              refine sound_build h hd ho hi hz hu hpl hag.1 hag.2 (fun q hq => ?_) hcs hv
              have := List.all_eq_true.1 hall q hq
              constructor
              · intro vs e; rw [e] at this; cases this
              · intro e; rw [e] at this; cases this
            · cases he
        · cases hag
      · cases hag
    · cases hag
  | lit keep sz xs =>
    simp only [agree] at hag
    unfold agLit at hag
    split at hag
    · rename_i ho
      split at hag
      · rename_i it hit
        obtain ⟨e1, ht, hi1⟩ := elemI_spec hit
        simp only [Bool.and_eq_true, beq_iff_eq, bne_iff_ne, decide_eq_true_eq] at hag
        obtain ⟨⟨⟨⟨⟨g1, g2⟩, g3⟩, g4⟩, g6⟩, g7⟩ := hag
        obtain ⟨z, hz⟩ := Option.isSome_iff_exists.1 g1
        cases xs with
        | nil =>
          simp only [aeff, Option.some.injEq] at he; subst he
          simp only [List.length_nil] at g4
          exact sound_lit0 h hd ho ht hi1 g4 g7
        | cons x xs =>
        simp only [aeff] at he
        split at he
        · rename_i ps hps
          split at he
          · rename_i hl
            have := sound_lit h hd (keep := keep) ho ht hi1 g2 hz g3 g4 (by simp) g6 g7 hps hl (.loc d 0) (by intro i e; cases e) (fun hk => hfr _ (by simp [AOp.keys, hk]))
            cases keep with
            | true => simp only [if_true, Option.some.injEq] at he this; subst he; exact this
            | false => simp only [Bool.false_eq_true, if_false, Option.some.injEq] at he this; subst he; exact this
          · cases he
        · cases he
      · cases hag
    · cases hag
  | mk sz bytes zero n c =>
    simp only [agree] at hag
    unfold agMk at hag
    split at hag
    · rename_i ho
      split at hag
      · rename_i it hit
        obtain ⟨e1, ht, hi1⟩ := elemI_spec hit
        split at hag
        · rename_i z hz
          simp only [Bool.and_eq_true, beq_iff_eq, bne_iff_ne] at hag
          obtain ⟨⟨⟨⟨⟨⟨g1, g2⟩, g3⟩, g4⟩, g5⟩, g6⟩, g7⟩ := hag
          simp only [aeff] at he
          split at he
          · rename_i n1 c1 hn hc
            split at he
            · rename_i hcond
              obtain ⟨q1, q2, q3, q4⟩ := hcond
              simp only [Option.some.injEq] at he; subst he
              exact sound_mk h hd ho ht hi1 g1 g2 hz g3 (fun w ok => agreeV_lies g4 w ok) g5 g6 g7 hn hc q1 q2 q3 q4 (.loc d 0) (by intro i e; cases e) (hfr _ (by simp [AOp.keys]))
            · cases he
          · cases he
        · cases hag
      · cases hag
    · cases hag
  | slc s sz x lo hi =>
    simp only [agree] at hag
    unfold agSlc at hag
    split at hag
    · rename_i ho
      simp only [Bool.and_eq_true] at hag
      obtain ⟨⟨⟨g1, g2⟩, g3⟩, g4⟩ := hag
      cases s with
      | true =>
        simp only [cond_true] at g1
        split at g1
        · rename_i ht
          simp only [aeff] at he
          split at he
          · rename_i s hx
            split at he
            · rename_i r hr
              split at he
              · rename_i l hl
                simp only [Option.some.injEq] at he; subst he
                exact sound_slcs h hd ho g2 g3 g4 ht hx hr hl
              · cases he
            · cases he
          · cases he
        · cases g1
      | false =>
        simp only [cond_false] at g1
        split at g1
        · rename_i it hit
          obtain ⟨e1, ht, hi1⟩ := elemI_spec hit
          simp only [aeff] at he
          split at he
          · rename_i xs hx
            split at he
            · rename_i r hr
              split at he
              · rename_i l hl
                split at he
                · rename_i hal
                  simp only [Option.some.injEq] at he; subst he
                  exact sound_slc h hd ho g2 g3 g4 ht hi1 (by simpa using g1) hx hr hl hal
                · cases he
              · cases he
            · cases he
          · cases he
        · cases g1
    · cases hag
  | len s x =>
    simp only [agree] at hag
    unfold agLen at hag
    split at hag
    · rename_i c ho
      split at hag
      · rename_i x1 t1 hc hca hct
        simp only [Bool.and_eq_true] at hag
        obtain ⟨g1, g2⟩ := hag
        have hca : c.args = #[x1] := by rw [← Array.toArray_toList (xs := c.args), hca]
        have hct : c.argTypes = #[t1] := by rw [← Array.toArray_toList (xs := c.argTypes), hct]
        split at g1
        · rename_i ht
          subst g1
          simp only [aeff] at he
          split at he
          · rename_i s hx
            simp only [Option.some.injEq] at he; subst he
            exact sound_len h hd ho hc hca hct g2 (.inl ⟨ht, s, hx, rfl⟩)
          · cases he
        · rename_i e1 ht
          simp only [Bool.not_eq_true'] at g1; subst g1
          simp only [aeff] at he
          split at he
          · rename_i xs hx
            simp only [Option.some.injEq] at he; subst he
            exact sound_len h hd ho hc hca hct g2 (.inr ⟨e1, xs, ht, hx, rfl⟩)
          · cases he
        · cases g1
      · cases hag
    · cases hag
  | mm mx x xs =>
    simp only [agree] at hag
    unfold agMm at hag
    split at hag
    · rename_i c ho
      split at hag
      · rename_i b x1 xs1 hc hca
        simp only [Bool.and_eq_true, beq_iff_eq] at hag
        obtain ⟨⟨g1, g2⟩, g3⟩ := hag
        subst g1
        simp only [aeff] at he
        split at he
        · rename_i p hp
          simp only [Option.map_eq_some_iff] at he
          obtain ⟨v, hv, rfl⟩ := he
          exact sound_mm h hd ho hc hca g2 g3 hp hv
        · cases he
      · cases hag
    · cases hag
  | mkfn f caps =>
    simp only [agree] at hag
    unfold agFn at hag
    split at hag
    · rename_i f1 first caps1 ho
      simp only [Bool.and_eq_true, beq_iff_eq, Array.isEmpty_iff] at hag
      obtain ⟨⟨rfl, rfl⟩, g3⟩ := hag
      have := sound_mkfn (P := P) h hd ho g3
      simp only [aeff] at he
      split at he
      · rename_i hc
        simp only [Option.some.injEq] at he; subst he
        rw [hc] at this; exact this
      · rename_i hc
        simp only [Option.some.injEq] at he; subst he
        split at this
        · rename_i hc2; exact absurd hc2 hc
        · exact this
    · cases hag
  | call keep m f args fz ln =>
    simp only [agree, Bool.and_eq_true] at hag
    replace hag := hag.2
    unfold agCall at hag
    split at hag
    · rename_i c ho
      split at hag
      · rename_i fo hc
        simp only [Bool.and_eq_true] at hag
        have hf2 : ∀ i, i < keep → σ.look (.loc d i) = none := fun i hi => hfr _ (by simp [AOp.keys]; exact hi)
        simp only [aeff] at he
        cases hcond : (decide (2 ≤ m) || !fz.isEmpty || !ln.isEmpty) with
        | true => rw [hcond] at he; cases he
        | false =>
        rw [hcond, cond_false] at he
        split at he
        · rename_i g caps ht
          cases hm : (m == 0) with
          | true =>
            rw [hm] at he
            simp only [cond_true, Bool.true_or] at he
            cases hbare : (List.map (fun v => SV.tidy v) (List.map σ.ev args ++ caps)).all SV.bare with
            | false => rw [hbare] at he; cases he
            | true =>
              rw [hbare, cond_true] at he
              split at he
              · rename_i r hr
                exact sound_callA hS h hd ho hc hag.1 hag.2 ht SV.tidy (okX := okB C β σ.look w) (fun x v hx => tidy_lies hx) (fun b hb => hb.1) hbare hr (.inl rfl) he hf2
              · cases he
          | false =>
            rw [hm] at he
            simp only [cond_false, Bool.false_or] at he
            cases hbare : (List.map (fun v => σ.seen v) (List.map σ.ev args ++ caps)).all SV.bare with
            | false => rw [hbare] at he; cases he
            | true =>
              rw [hbare, cond_true] at he
              split at he
              · rename_i r hr
                cases hsc : (r.v.scalar && r.rows.isEmpty) with
                | false => rw [hsc] at he; cases he
                | true =>
                  rw [hsc, cond_true] at he
                  simp only [Bool.and_eq_true, List.isEmpty_iff] at hsc
                  exact sound_callA hS h hd ho hc hag.1 hag.2 ht σ.seen (okX := okP w) (fun x v hx => seen_lies h hx) (fun b hb => hb) hbare hr (.inr hsc) he hf2
              · cases he
        · cases he
      · cases hag
    · cases hag
  | append kd sz bytes x y => simp [aeff] at he
  | ins f sz bytes x i y => cases hag
  | mkmap kk =>
    simp only [agree] at hag
    unfold agMkmap at hag
    split at hag
    · rename_i t ho
      simp only [aeff, Option.some.injEq] at he; subst he
      exact sound_mkmap h hd ho kk (.loc d 0) (by intro i e; cases e) (hfr _ (by simp [AOp.keys]))
    · cases hag
  | mlook kk ok zero x k =>
    simp only [agree] at hag
    unfold agMlook at hag
    split at hag
    · rename_i t x1 k1 ok1 ho
      split at hag
      · rename_i ds it hmo
        obtain ⟨kt, et, ht, hkt, hit⟩ := mapOf_spec hmo
        split at hag
        · rename_i z hz
          simp only [Bool.and_eq_true, beq_iff_eq] at hag
          obtain ⟨⟨⟨⟨g1, g2⟩, g3⟩, g4⟩, g5⟩ := hag
          subst g3
          simp only [aeff] at he
          split at he
          · rename_i key kv hx hk
            split at he
            · rename_i kk' es hlk
              cases hc : (decide (kk' = kk) && kv.isKK kk) with
              | false => rw [hc] at he; cases he
              | true =>
                rw [hc, cond_true] at he
                simp only [Bool.and_eq_true, decide_eq_true_eq] at hc
                obtain ⟨rfl, hkv⟩ := hc
                simp only [Option.some.injEq] at he; subst he
                exact sound_mlook h hd ho g4 g5 ht hkt g1 hit hz (fun w ok => agreeV_lies g2 w ok) hx hlk hk hkv
            · cases he
          · cases he
        · cases hag
      · cases hag
    · cases hag
  | mset kk x k v => simp [aeff] at he
  | mlen x =>
    simp only [agree] at hag
    unfold agMlen at hag
    split at hag
    · rename_i c ho
      split at hag
      · rename_i x1 t1 hc hca hct
        simp only [Bool.and_eq_true] at hag
        obtain ⟨g1, g2⟩ := hag
        have hca : c.args = #[x1] := by rw [← Array.toArray_toList (xs := c.args), hca]
        have hct : c.argTypes = #[t1] := by rw [← Array.toArray_toList (xs := c.argTypes), hct]
        split at g1
        · rename_i kt et ht
          simp only [aeff] at he
          split at he
          · rename_i key hx
            split at he
            · rename_i kk es hlk
              simp only [Option.some.injEq] at he; subst he
              exact sound_mlen h hd ho hc hca hct g2 ht hx hlk
            · cases he
          · cases he
        · cases g1
      · cases hag
    · cases hag
  | stuck => simp [aeff] at he

end
end Go.Av
