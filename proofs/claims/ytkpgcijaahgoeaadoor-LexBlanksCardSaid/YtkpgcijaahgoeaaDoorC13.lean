import Derived.ProofKit
import Derived.Test.YtkpgcijaahgoeaaDoorC12
section
set_option linter.unusedVariables false
set_option linter.unusedSimpArgs false
namespace Go.Av
open Go Go.ChangeShapes Go.WideShapes Go.ChangeAt Go.RowKit
inductive TT where
 | int (k : IntKind)
 | bool
 | str
 | slice (t : TT)
 | unit
 | field (t r : TT)
 | struct (t : TT)
def TT.sz : TT → Nat
 | .unit => 0
 | .field t r => t.sz + r.sz
 | .struct t => t.sz
 | _ => 1
def TT.pack : TT → List PV → PV
 | .struct _, xs => .agg xs
 | .unit, xs => .agg xs
 | .field _ _, xs => .agg xs
 | _, xs => xs.headD .nilI
def TT.Of : TT → List PV → Prop
 | .int k, xs => ∃ n, xs = [.int k n] ∧ k.min ≤ n ∧ n ≤ k.max
 | .bool, xs => ∃ b, xs = [.bool b]
 | .str, xs => ∃ s, xs = [.str s] ∧ s.length ≤ maxLen
 | .slice t, xs => ∃ ys : List (List PV), xs = [.slice (ys.map t.pack)] ∧ ys.length ≤ maxLen ∧ ∀ y ∈ ys, t.Of y
 | .unit, xs => xs = []
 | .field t r, xs => ∃ a b, xs = a ++ b ∧ t.Of a ∧ r.Of b
 | .struct t, xs => t.Of xs
def readsF (P : Program) (rd : TypeId → TT → Bool) : Nat → List Field → TT → Bool
 | _, [], .unit => true
 | off, f :: fs, .field t r => f.offset == off && (P.cellsOf f.type == t.sz && (rd f.type t && readsF P rd (off + t.sz) fs r))
 | _, _, _ => false
def reads (P : Program) : Nat → TypeId → TT → Bool
 | 0, _, _ => false
 | n + 1, t, τ => match P.underlying t, τ with
  | some (.int k), .int k' => k == k'
  | some .bool, .bool => true
  | some .string, .str => true
  | some (.slice e), .slice r => P.cellsOf e == r.sz && (decide (0 < r.sz) && reads P n e r)
  | some (.struct fs), .struct r => P.cellsOf t == r.sz && readsF P (reads P n) 0 fs.toList r
  | _, _ => false
theorem TT.Of.len : ∀ {t : TT} {xs : List PV}, t.Of xs → xs.length = t.sz
 | .int k, xs, ⟨n, h, _⟩ => by subst h; rfl
 | .bool, xs, ⟨b, h⟩ => by subst h; rfl
 | .str, xs, ⟨s, h, _⟩ => by subst h; rfl
 | .slice t, xs, ⟨ys, h, _⟩ => by subst h; rfl
 | .unit, xs, h => by simp [TT.Of] at h; subst h; rfl
 | .field t r, xs, ⟨a, b, h, ha, hb⟩ => by subst h; simp [TT.sz, ha.len, hb.len]
 | .struct t, xs, h => TT.Of.len (t := t) h
theorem TT.Of.one : ∀ {t : TT} {xs : List PV}, t.Of xs → ∀ x ∈ xs, x.one = true
 | .int k, xs, ⟨n, h, _⟩ => by subst h; simp [PV.one]
 | .bool, xs, ⟨b, h⟩ => by subst h; simp [PV.one]
 | .str, xs, ⟨s, h, _⟩ => by subst h; simp [PV.one]
 | .slice t, xs, ⟨ys, h, _⟩ => by subst h; simp [PV.one]
 | .unit, xs, h => by simp [TT.Of] at h; subst h; simp
 | .field t r, xs, ⟨a, b, h, ha, hb⟩ => by
  subst h
  intro x hx
  rcases List.mem_append.1 hx with hx | hx
  ·exact ha.one x hx
  ·exact hb.one x hx
 | .struct t, xs, h => TT.Of.one (t := t) h
theorem TT.cells_pack {t : TT} {xs : List PV} (h : t.Of xs) : (t.pack xs).cells = xs := by
 cases t with
 | struct t => rfl
 | int k => obtain ⟨n, rfl, _⟩ := h; rfl
 | bool => obtain ⟨n, rfl⟩ := h; rfl
 | str => obtain ⟨n, rfl, _⟩ := h; rfl
 | slice t => obtain ⟨n, rfl, _⟩ := h; rfl
 | unit => rfl
 | field t r => rfl
def LiesL (w : World) (ok : Nat → Prop) (xs : List PV) (us : List Value) : Prop := xs.length = us.length ∧ ∀ (j : Nat) (x : PV) (u : Value), xs[j]? = some x → us[j]? = some u → Lies w ok x u
theorem LiesL.append {w : World} {ok : Nat → Prop} {xs xs' : List PV} {us us' : List Value} (h : LiesL w ok xs us) (h' : LiesL w ok xs' us') : LiesL w ok (xs ++ xs') (us ++ us') := by
 refine ⟨by simp [h.1, h'.1], fun j x u hx hu => ?_⟩
 by_cases hj : j < xs.length
 ·rw [List.getElem?_append_left hj] at hx
  rw [List.getElem?_append_left (h.1 ▸ hj)] at hu
  exact h.2 j x u hx hu
 ·rw [List.getElem?_append_right (by omega)] at hx
  rw [List.getElem?_append_right (by rw [← h.1]; omega), ← h.1] at hu
  exact h'.2 _ x u hx hu
theorem LiesL.single {w : World} {ok : Nat → Prop} {x : PV} {u : Value} (h : Lies w ok x u) : LiesL w ok [x] [u] := by
 refine ⟨rfl, fun j y v hy hv => ?_⟩
 cases j with
 | zero => simp at hy hv; subst hy; subst hv; exact h
 | succ j => simp at hy
section
variable {H : Type} {enc : TypeId × Value → H} {P : Program} {W : World}
theorem treadF {n m : Nat} {cs : List Value} (IH : ∀ (t : TypeId) (τ : TT) (cs : List Value) (x : DataW H × List MemPlace), reads P n t τ = true → DataW.trod enc P W 0 (fun _ => true) true m t cs = some x → cs.length = τ.sz ∧ ∃ xs, τ.Of xs ∧ LiesL W (· < W.heap.size) xs cs) :
  ∀ (fs : List Field) (τ : TT) (off : Nat), readsF P (reads P n) off fs τ = true → (∀ f ∈ fs, ∃ x, DataW.trod enc P W 0 (fun _ => true) true m f.type ((cs.drop f.offset).take (P.cellsOf f.type)) = some x) → off + τ.sz = cs.length →
   ∃ xs, τ.Of xs ∧ LiesL W (· < W.heap.size) xs (cs.drop off)
 | [], .unit, off, h, ht, hl => ⟨[], rfl, by simp [TT.sz] at hl; subst hl; exact ⟨by simp, fun j x u hx => by simp at hx⟩⟩
 | f :: fs, .field t r, off, h, ht, hl => by
  simp only [readsF, Bool.and_eq_true, beq_iff_eq] at h
  obtain ⟨rfl, hc, hr, hF⟩ := h
  obtain ⟨x, hx⟩ := ht f (by simp)
  obtain ⟨hlen, xs, ho, hL⟩ := IH _ _ _ _ hr hx
  simp only [TT.sz] at hl
  obtain ⟨ys, ho', hL'⟩ := treadF IH fs r (f.offset + t.sz) hF (fun g hg => ht g (by simp [hg])) (by omega)
  refine ⟨xs ++ ys, ⟨xs, ys, rfl, ho, ho'⟩, ?_⟩
  have e : cs.drop f.offset = (cs.drop f.offset).take (P.cellsOf f.type) ++ cs.drop (f.offset + t.sz) := by
   rw [hc, ← List.drop_drop]
   exact (List.take_append_drop _ _).symm
  rw [e]
  exact hL.append hL'
 | [], .int _, _, h, _, _ => by simp [readsF] at h
 | [], .bool, _, h, _, _ => by simp [readsF] at h
 | [], .str, _, h, _, _ => by simp [readsF] at h
 | [], .slice _, _, h, _, _ => by simp [readsF] at h
 | [], .field _ _, _, h, _, _ => by simp [readsF] at h
 | [], .struct _, _, h, _, _ => by simp [readsF] at h
 | _ :: _, .int _, _, h, _, _ => by simp [readsF] at h
 | _ :: _, .bool, _, h, _, _ => by simp [readsF] at h
 | _ :: _, .str, _, h, _, _ => by simp [readsF] at h
 | _ :: _, .slice _, _, h, _, _ => by simp [readsF] at h
 | _ :: _, .unit, _, h, _, _ => by simp [readsF] at h
 | _ :: _, .struct _, _, h, _, _ => by simp [readsF] at h
theorem trow {n m : Nat} {e : TypeId} {τ : TT} (IH : ∀ (t : TypeId) (τ : TT) (cs : List Value) (x : DataW H × List MemPlace), reads P n t τ = true → DataW.trod enc P W 0 (fun _ => true) true m t cs = some x → cs.length = τ.sz ∧ ∃ xs, τ.Of xs ∧ LiesL W (· < W.heap.size) xs cs)
  (hc : P.cellsOf e = τ.sz) (h0 : 0 < τ.sz) (hr : reads P n e τ = true) {a : Addr} {len : Nat} {elems : List (DataW H × List MemPlace)} (hl : elems.length = len)
  (h : ∀ i, i < len → (W.cells? 0 (a.add (i * P.cellsOf e)) (P.cellsOf e)).bind (DataW.trod enc P W 0 (fun _ => true) true m e) = elems[i]?) :
  ∃ (ys : List (List PV)) (us : Nat → Nat → Value), ys.length = len ∧ (∀ y ∈ ys, τ.Of y) ∧ (0 < len → a.spot = none) ∧ (∀ i j, i < len → j < τ.sz → a.block < W.heap.size ∧ W.cell? ⟨a.block, a.off + i * τ.sz + j, none⟩ = some (us i j)) ∧
   ∀ (i j : Nat) (y : List PV) (x : PV), ys[i]? = some y → y[j]? = some x → Lies W (· < W.heap.size) x (us i j) := by
 have key : ∀ i, ∃ q : List PV × List Value, i < len → W.cells? 0 (a.add (i * P.cellsOf e)) (P.cellsOf e) = some q.2 ∧ q.2.length = τ.sz ∧ τ.Of q.1 ∧ LiesL W (· < W.heap.size) q.1 q.2 := by
  intro i
  by_cases hi : i < len
  ·have := h i hi
   rw [List.getElem?_eq_getElem (by omega)] at this
   obtain ⟨cs, h1, h2⟩ := Option.bind_eq_some_iff.1 this
   obtain ⟨h3, xs, h4, h5⟩ := IH _ _ _ _ hr h2
   exact ⟨(xs, cs), fun _ => ⟨h1, h3, h4, h5⟩⟩
  ·exact ⟨([], []), fun h => absurd h hi⟩
 obtain ⟨f, hf⟩ := Classical.skolem.1 key
 have hcell : ∀ i, i < len → ∀ j, j < τ.sz → W.cell? ((a.add (i * τ.sz)).add j) = some (((f i).2[j]?).getD default) := by
  intro i hi j hj
  obtain ⟨h1, h2, h3, h4⟩ := hf i hi
  rw [hc] at h1
  rw [(World.cells?_some h1).2.2 j hj, List.getElem?_eq_getElem (by omega)]
  rfl
 have hspot : 0 < len → a.spot = none := by
  intro hlen
  have := hcell 0 hlen 0 h0
  simp only [Nat.zero_mul, Addr.add, if_true] at this
  unfold World.cell? at this
  cases hs : a.spot with
  | none => rfl
  | some s => rw [hs] at this; split at this <;> simp at this
 refine ⟨(List.range len).map fun i => (f i).1, fun i j => ((f i).2[j]?).getD default, by simp, ?_, hspot, ?_, ?_⟩
 ·intro y hy
  simp only [List.mem_map, List.mem_range] at hy
  obtain ⟨i, hi, rfl⟩ := hy
  exact (hf i hi).2.2.1
 ·intro i j hi hj
  have hs := hspot (by omega)
  have hh := hcell i hi j hj
  have e1 : (a.add (i * τ.sz)).add j = ⟨a.block, a.off + i * τ.sz + j, none⟩ := by
   rcases a with ⟨b, o, s⟩
   simp only at hs
   subst hs
   unfold Addr.add
   split <;> split <;> simp_all
  rw [e1] at hh
  refine ⟨?_, hh⟩
  unfold World.cell? at hh
  split at hh
  ·rename_i hb
   exact (Array.getElem?_eq_some_iff.1 hb).1
  ·cases hh
 ·intro i j y x hy hx
  simp only [List.getElem?_map, Option.map_eq_some_iff] at hy
  obtain ⟨i', hi', rfl⟩ := hy
  have hi : i < len := by
   have := (List.getElem?_eq_some_iff.1 hi').1
   simpa using this
  obtain rfl : i = i' := by simpa [List.getElem?_range hi] using hi'
  obtain ⟨h1, h2, h3, h4⟩ := hf i hi
  have hj : j < (f i).2.length := by
   rw [← h4.1]
   exact (List.getElem?_eq_some_iff.1 hx).1
  have := h4.2 j x (f i).2[j] hx (List.getElem?_eq_getElem hj)
  simpa [List.getElem?_eq_getElem hj] using this
theorem tread : ∀ (m n : Nat) (t : TypeId) (τ : TT) (cs : List Value) (x : DataW H × List MemPlace), reads P n t τ = true → DataW.trod enc P W 0 (fun _ => true) true m t cs = some x → cs.length = τ.sz ∧ ∃ xs, τ.Of xs ∧ LiesL W (· < W.heap.size) xs cs
 | m, 0, t, τ, cs, x, hr, h => by simp [reads] at hr
 | 0, n + 1, t, τ, cs, x, hr, h => by simp [DataW.trod] at h
 | m + 1, n + 1, t, τ, cs, x, hr, h => by
  have IH := tread m n
  unfold reads at hr
  split at hr
  ·rename_i k k' ht
   obtain rfl : k = k' := by simpa using hr
   obtain ⟨i, rfl, _, hw⟩ := DataW.trod_int ht h
   simp only [Lit.wf, Bool.and_eq_true, decide_eq_true_eq] at hw
   exact ⟨rfl, _, ⟨i, rfl, hw.1, hw.2⟩, .single (.int k i)⟩
  ·rename_i ht
   obtain ⟨b, rfl, _⟩ := DataW.trod_bool ht h
   exact ⟨rfl, _, ⟨b, rfl⟩, .single (.bool b)⟩
  ·rename_i ht
   obtain ⟨s, rfl, _, hw⟩ := DataW.trod_string ht h
   exact ⟨rfl, _, ⟨s.data.toList, rfl, by rw [Array.length_toList]; exact hw⟩, .single (by simpa using Lies.str (w := W) (ok := (· < W.heap.size)) s.data.toList)⟩
  ·rename_i e r ht
   simp only [Bool.and_eq_true, beq_iff_eq, decide_eq_true_eq] at hr
   obtain ⟨hc, h0, hr⟩ := hr
   rcases DataW.trod_slice ht h with ⟨rfl, _⟩ | ⟨a, len, cap, elems, rest, m', hm, rfl, _, _, hlc, hcm, hel, hat, _, _⟩
   ·exact ⟨rfl, _, ⟨[], rfl, Nat.zero_le _, by simp⟩, .single (.slice [] none 0 0 r.sz (fun _ _ => default) rfl (Nat.le_refl _) (by simp) (by simp) (by intro i j hi; omega) (by omega) (by intro i j x y hx; simp at hx))⟩
   ·obtain rfl : m = m' := by omega
    obtain ⟨ys, us, hl, ho, hs, hcell, hlie⟩ := trow IH hc h0 hr hel hat
    refine ⟨rfl, _, ⟨ys, rfl, by omega, ho⟩, .single (.slice _ (some a) len cap r.sz us (by simp [hl]) hlc ?_ ?_ ?_ ?_ ?_)⟩
    ·intro x hx
     obtain ⟨y, hy, rfl⟩ := List.mem_map.1 hx
     rw [TT.cells_pack (ho y hy)]
     exact (ho y hy).len
    ·intro x hx
     obtain ⟨y, hy, rfl⟩ := List.mem_map.1 hx
     rw [TT.cells_pack (ho y hy)]
     exact (ho y hy).one
    ·intro i j hi hj
     exact ⟨a, rfl, hs (by omega), (hcell i j hi hj).1, (hcell i j hi hj).2⟩
    ·intro h; exact ⟨a, rfl, hs h⟩
    ·intro i j x y hx hy
     simp only [List.getElem?_map, Option.map_eq_some_iff] at hx
     obtain ⟨z, hz, rfl⟩ := hx
     rw [TT.cells_pack (ho z (List.mem_of_getElem? hz))] at hy
     exact hlie i j z y hz hy
  ·rename_i fs r ht
   simp only [Bool.and_eq_true, beq_iff_eq] at hr
   obtain ⟨hc, hF⟩ := hr
   obtain ⟨xs, m', hm, _, hlen, hxl, hf⟩ := DataW.trod_struct ht h
   obtain rfl : m = m' := by omega
   refine ⟨by rw [hlen, hc]; rfl, ?_⟩
   obtain ⟨ys, ho, hL⟩ := treadF (cs := cs) IH fs.toList r 0 hF (fun f hf' => by
    obtain ⟨i, hi, he⟩ := List.getElem_of_mem hf'
    have hi' : i < fs.size := by simpa using hi
    have := hf i f (by rw [Array.getElem?_eq_getElem hi']; simpa using he)
    rw [List.getElem?_eq_getElem (by omega)] at this
    exact ⟨_, this⟩) (by rw [hlen, hc]; simp)
   exact ⟨ys, ho, by simpa using hL⟩
  ·cases hr
theorem targ {n base : Nat} {t : TypeId} {τ : TT} {v : Value} {d : DataW H} {ps : List MemPlace} (hr : reads P n t τ = true) (hok : Value.okWide P W .any base t v) (h : DataW.Trod enc P W 0 (fun _ => true) true t v d ps) :
  ∃ xs, τ.Of xs ∧ Lies W (· < W.heap.size) (τ.pack xs) v := by
 obtain ⟨m, hm⟩ := h
 obtain ⟨hlen, xs, ho, hL⟩ := tread m n t τ _ _ hr hm
 refine ⟨xs, ho, ?_⟩
 have one : ∀ u, v = u → u.cells = #[u] → (τ.pack xs).cells = [τ.pack xs] → Lies W (· < W.heap.size) (τ.pack xs) v := by
  intro u hu hc hp
  subst hu
  rw [TT.cells_pack ho] at hp
  rw [hc, hp] at hL
  exact hL.2 0 _ _ rfl rfl
 cases n with
 | zero => simp [reads] at hr
 | succ n =>
  unfold reads at hr
  split at hr
  ·rename_i ht
   obtain ⟨i, rfl⟩ := okWide_int ht hok
   obtain ⟨k, rfl, _⟩ := ho
   exact one _ rfl rfl rfl
  ·rename_i ht
   obtain ⟨i, rfl⟩ := okWide_bool ht hok
   obtain ⟨k, rfl⟩ := ho
   exact one _ rfl rfl rfl
  ·rename_i ht
   obtain ⟨i, rfl⟩ := okWide_string ht hok
   obtain ⟨k, rfl, _⟩ := ho
   exact one _ rfl rfl rfl
  ·rename_i ht
   obtain ⟨a, l, c, rfl⟩ := okWide_slice ht hok
   obtain ⟨k, rfl, _⟩ := ho
   exact one _ rfl rfl rfl
  ·rename_i ht
   obtain ⟨us, rfl, hs⟩ := okWide_struct ht hok
   simp only [TT.pack]
   have := Lies.agg (w := W) (ok := (· < W.heap.size)) xs us.toList (by simpa [Value.cells] using hL.1) (fun x hx => TT.Of.one ho x hx) (by simpa [Value.cells] using hL.2)
   simpa using this
  ·cases hr
theorem of_list {α : Type} {f : α → PV} {τ : TT} {wf : α → Prop} (hh : ∀ xs, τ.Of xs → ∃ x, wf x ∧ τ.pack xs = f x) : ∀ ys : List (List PV), (∀ y ∈ ys, τ.Of y) → ∃ l : List α, l.length = ys.length ∧ (∀ x ∈ l, wf x) ∧ ys.map τ.pack = l.map f
 | [], _ => ⟨[], rfl, by simp, rfl⟩
 | y :: ys, h => by
  obtain ⟨x, hx, he⟩ := hh y (h y (by simp))
  obtain ⟨l, h0, h1, h2⟩ := of_list hh ys (fun z hz => h z (by simp [hz]))
  refine ⟨x :: l, by simp [h0], ?_, by simp [he, h2]⟩
  intro z hz
  rcases List.mem_cons.1 hz with rfl | hz
  ·exact hx
  ·exact h1 z hz
theorem trodAll_stay {W' : World} (hl : laidOutB P = true) (hb : Below W.heap.size W W') {sp : Nat → Bool} : ∀ {ts : List TypeId} {vs : List Value} {ds : List (DataW H)} {ps : List MemPlace},
  (∀ t ∈ ts, P.readableRec t = true ∧ t < P.types.size) → DataW.TrodAll enc P W 0 (fun _ => true) true ts vs ds ps → (∀ p ∈ ps, p.block < W.heap.size) → (∀ p ∈ ps, sp p.block = true) → DataW.TrodAll enc P W' 0 sp true ts vs ds ps
 | [], _, _, _, _, h, _, _ => by
  obtain ⟨rfl, rfl, rfl⟩ := trodAll_nil h
  rfl
 | t :: ts, _, _, _, hr, h, hlt, hs => by
  obtain ⟨v, vs, d, ds, a, b, rfl, rfl, rfl, h1, h2⟩ := trodAll_cons h
  exact ⟨a, b, WideElems.Trod_stays hl (hr t (by simp)).1 (hr t (by simp)).2 h1 (fun p hp => hb.same (hlt p (by simp [hp]))) (fun p hp => hs p (by simp [hp])), trodAll_stay hl hb (fun u hu => hr u (by simp [hu])) h2 (fun p hp => hlt p (by simp [hp])) (fun p hp => hs p (by simp [hp])), rfl⟩
theorem keptBut_below {W' : World} (hb : Below W.heap.size W W') (may : MemPlace → Prop) : W.keptBut W' may := by
 refine ⟨hb.os, hb.output, fun i hi => ?_⟩
 rw [hb.block i hi]
 split <;> simp_all
theorem post_true {f : Func} {s : ChangeSpec} {apart fresh handsOn again : Bool} {W' : World} {args : Array Value} {ds gs : List (DataW H)} {before : List MemPlace} {tb : TypeId}
  (hl : laidOutB P = true) (hp : ∀ t ∈ f.params.toList, P.readableRec t = true ∧ t < P.types.size) (hr : f.resultTypes = #[tb]) (hb : P.underlying tb = some .bool) (hv : s.vars = [])
  (hW : DataW.Whole enc P f.params.toList s.vars apart W args.toList ds gs before) (h1 : (s.fn H (ds ++ gs)).results = [.lit (.bool true)]) (h2 : (s.fn H (ds ++ gs)).args = ds) (h3 : (s.fn H (ds ++ gs)).vars = [])
  (hbel : Below W.heap.size W W') : s.post enc P f apart fresh handsOn again W args (.bool true) W' := by
 have hlt := hW.lt
 have hW0 := hW
 obtain ⟨p, q, hA, hV, rfl, hz, hn⟩ := hW
 rw [hv] at hV
 obtain ⟨rfl, rfl⟩ := trodVars_none hV
 have hres : ∀ (b : Nat) (sp : Nat → Bool) (hd : Bool), DataW.TrodAll enc P W' b sp hd f.resultTypes.toList ((Value.bool true).resultList f.resultTypes.size) [.lit (.bool true)] [] := by
  intro b sp hd
  rw [hr]
  exact trodAll_mk1 ⟨1, by simp [DataW.trod, Value.cells, hb]⟩
 have hargs : ∀ sp : Nat → Bool, (∀ x ∈ p, sp x.block = true) → DataW.TrodAll enc P W' 0 sp true f.params.toList args.toList ds p := fun sp hs => trodAll_stay hl hbel hp hA (fun x hx => hlt x (by simp [hx])) hs
 refine ⟨ds, [], p ++ [], [], p, [], hW0, by rw [h1]; exact hres _ _ _, by rw [h2]; exact hargs _ (fun x hx => by simpa using hlt x (by simp [hx])), by rw [h3, hv]; rfl, keptBut_below hbel _, fun _ => ?_⟩
 refine ⟨?_, _, [], ([] ++ p) ++ [], ⟨[] ++ p, [], trodAll_append (hargs _ (fun _ _ => rfl)) (hres _ _ _), by rw [hv]; rfl, rfl, ?_, ?_⟩, ?_⟩
 ·exact ok_one (f := f) hr rfl (okWide_bool_mk hb true)
 ·intro b off hm
  have hm' : MemPlace.cell b off ∈ p := by simpa using hm
  have h0 := hz b off (by simpa using hm')
  have hlb := hlt _ (by simpa using hm' : MemPlace.cell b off ∈ p ++ [])
  unfold World.frozen? at h0 ⊢
  rw [hbel.block b hlb]
  exact h0
 ·intro ha
  simpa using hn ha
 ·intro x hx _
  simpa using hx
def AllOf : List TT → List PV → Prop
 | [], xs => xs = []
 | τ :: ts, xs => ∃ cs ys, xs = τ.pack cs :: ys ∧ τ.Of cs ∧ AllOf ts ys
theorem targs {n base : Nat} : ∀ {ts : List TypeId} {τs : List TT} {vs : List Value} {ds : List (DataW H)} {ps : List MemPlace}, ts.length = τs.length → (∀ p ∈ ts.zip τs, reads P n p.1 p.2 = true) →
  (∀ (j : Nat) t v, ts[j]? = some t → vs[j]? = some v → Value.okWide P W .any base t v) → DataW.TrodAll enc P W 0 (fun _ => true) true ts vs ds ps → ds.length = ts.length ∧ ∃ xs, AllOf τs xs ∧ LiesL W (· < W.heap.size) xs vs
 | [], τs, _, _, _, hl, _, _, h => by
  obtain ⟨rfl, rfl, rfl⟩ := trodAll_nil h
  cases τs with
  | nil => exact ⟨rfl, [], rfl, rfl, fun j x u hx => by simp at hx⟩
  | cons => cases hl
 | t :: ts, τs, _, _, _, hl, hr, hok, h => by
  obtain ⟨v, vs, d, ds, a, b, rfl, rfl, rfl, h1, h2⟩ := trodAll_cons h
  cases τs with
  | nil => cases hl
  | cons τ τs =>
   obtain ⟨cs, ho, hL⟩ := targ (hr (t, τ) (by simp)) (hok 0 t v rfl rfl) h1
   obtain ⟨hlen, ys, hos, hLs⟩ := targs (by simpa using hl) (fun p hp => hr p (by simp [hp])) (fun j t v ht hv => hok (j + 1) t v (by simpa using ht) (by simpa using hv)) h2
   exact ⟨by simp [hlen], _, ⟨cs, ys, rfl, ho, hos⟩, (LiesL.single hL).append hLs⟩
theorem calls_true {f : FuncId} {vs : List Value} {xs : List PV} (hc : Contract P f (xs.map .pv) [] ⟨.pv (.bool true), [], []⟩) (hl : LiesL W (· < W.heap.size) xs vs) (hG : GOK W (· < W.heap.size)) :
  Calls P f vs.toArray W fun e W' => e = .returned (.bool true) ∧ Below W.heap.size W W' := by
 refine (hc.2 W vs (fun _ => ⟨none, 0⟩) (· < W.heap.size) (fun b hb => ⟨hb, fun i hi => by cases hi⟩) hG (fun i j b hi => by cases hi) (fun i xs hx => by simp at hx) (by simpa using hl.1) ?_).mono ?_
 ·intro j x v hx hv
  simp only [List.getElem?_map, Option.map_eq_some_iff] at hx
  obtain ⟨y, hy, rfl⟩ := hx
  exact .pv _ _ (hl.2 j y v hy hv)
 ·rintro e W' ⟨v, δ, rfl, ha⟩
  refine ⟨?_, ha.quiet.os, ha.quiet.tape, ha.quiet.out, ha.size, fun b hb => ha.frame b hb (fun ⟨i, hi, _⟩ => by cases hi)⟩
  cases ha.val with
  | pv _ _ h => cases h; rfl
theorem law_at {f : FuncId} {fn : Func} {s : ChangeSpec} {apart fresh handsOn again : Bool} {n : Nat} {tb : TypeId} (τs : List TT)
  (hl : laidOutB P = true) (hp : fn.params.toList.all (fun t => P.readableRec t && decide (t < P.types.size)) = true) (hr : fn.resultTypes = #[tb]) (hb : P.underlying tb = some .bool) (hv : s.vars = [])
  (ht : fn.params.toList.length = τs.length) (hrd : (fn.params.toList.zip τs).all (fun p => reads P n p.1 p.2) = true) (hs : ∀ ds : List (DataW H), ds.length = fn.params.toList.length → s.fn H ds = { results := [.lit (.bool true)], args := ds })
  (hc : ∀ xs : List PV, AllOf τs xs → Contract P f (xs.map .pv) [] ⟨.pv (.bool true), [], []⟩) :
  ∀ (W : World) (base : Nat) (args : Array Value) (ds gs : List (DataW H)) (before : List MemPlace),
   (∀ (j : Nat) t v, fn.params[j]? = some t → args[j]? = some v → Value.okWide P W .any base t v) →
   DataW.Whole enc P fn.params.toList s.vars apart W args.toList ds gs before →
   GOK W (· < W.heap.size) →
   Calls P f args W fun e W' => ∃ v, e = .returned v ∧ s.post enc P fn apart fresh handsOn again W args v W' := by
 intro W base args ds gs before hok hW hG
 have hW0 := hW
 obtain ⟨p, q, hA, hV, rfl, _, _⟩ := hW
 rw [hv] at hV
 obtain ⟨rfl, rfl⟩ := trodVars_none hV
 obtain ⟨hlen, xs, ho, hL⟩ := targs (n := n) (base := base) ht (by simpa using hrd) (fun j t v h1 h2 => hok j t v (by simpa using h1) (by simpa using h2)) hA
 have hs' : s.fn H (ds ++ []) = { results := [.lit (.bool true)], args := ds } := by rw [List.append_nil]; exact hs ds hlen
 refine (calls_true (hc xs ho) hL hG).mono fun e W' ⟨he, hb'⟩ => ⟨_, he, ?_⟩
 exact post_true (P := P) hl (fun t ht => by have := List.all_eq_true.1 hp t ht; simpa using this) hr hb hv hW0 (by rw [hs']) (by rw [hs']) (by rw [hs']) hb'
end
def inR (k : IntKind) (n : Int) : Prop := k.min ≤ n ∧ n ≤ k.max
theorem of_int {k : IntKind} {xs : List PV} (h : (TT.int k).Of xs) : ∃ n, inR k n ∧ (TT.int k).pack xs = eInt k n := by
 obtain ⟨n, rfl, hw⟩ := h
 exact ⟨n, hw, rfl⟩
theorem of_slice {α : Type} {f : α → PV} {τ : TT} {wf : α → Prop} (hh : ∀ xs, τ.Of xs → ∃ x, wf x ∧ τ.pack xs = f x) {xs : List PV} (h : (TT.slice τ).Of xs) : ∃ l : List α, (l.length ≤ maxLen ∧ ∀ x ∈ l, wf x) ∧ xs = [.slice (l.map f)] := by
 obtain ⟨ys, rfl, hl, hy⟩ := h
 obtain ⟨l, h0, h1, h2⟩ := of_list hh ys hy
 exact ⟨l, ⟨by omega, h1⟩, by rw [h2]⟩
end Go.Av
end
section
set_option linter.unusedVariables false
set_option linter.unusedSimpArgs false
set_option maxRecDepth 100000
set_option maxHeartbeats 8000000
namespace Go.Av.G
open Go Go.Av Go.Proofs
structure T_api_Token where
 f_Kind : Int
 f_Line : Int
 f_Col : Int
 f_Text : List UInt8
 deriving DecidableEq, Inhabited
def T_api_Token.pv (x : T_api_Token) : PV := .agg [.int .i64 x.f_Kind, .int .i64 x.f_Line, .int .i64 x.f_Col, .str x.f_Text]
def T_api_Token.same (x y : T_api_Token) : Bool := ((x.f_Kind == y.f_Kind) && ((x.f_Line == y.f_Line) && ((x.f_Col == y.f_Col) && ((x.f_Text == y.f_Text) && true))))
def T_api_Token.tt : TT := .struct (.field (.int .i64) (.field (.int .i64) (.field (.int .i64) (.field .str .unit))))
def T_api_Token.wf (x : T_api_Token) : Prop := inR .i64 x.f_Kind ∧ inR .i64 x.f_Line ∧ inR .i64 x.f_Col ∧ x.f_Text.length ≤ maxLen
theorem T_api_Token.of {xs : List PV} (hh : T_api_Token.tt.Of xs) : ∃ x : T_api_Token, x.wf ∧ T_api_Token.tt.pack xs = T_api_Token.pv x := by
 obtain ⟨a0, b0, rfl, h0, hh⟩ := hh
 obtain ⟨a1, b1, rfl, h1, hh⟩ := hh
 obtain ⟨a2, b2, rfl, h2, hh⟩ := hh
 obtain ⟨a3, b3, rfl, h3, hh⟩ := hh
 obtain rfl : _ = [] := hh
 obtain ⟨n0, rfl, w0⟩ := h0
 obtain ⟨n1, rfl, w1⟩ := h1
 obtain ⟨n2, rfl, w2⟩ := h2
 obtain ⟨n3, rfl, w3⟩ := h3
 exact ⟨⟨n0, n1, n2, n3⟩, ⟨w0, w1, w2, w3⟩, rfl⟩
structure T_lex_kind where
 f_begins : Nat
 f_long : Nat
 deriving DecidableEq, Inhabited
def T_lex_kind.pv (x : T_lex_kind) : PV := .agg [.fn x.f_begins, .fn x.f_long]
def T_lex_kind.cl (x : T_lex_kind) : List PV := [.fn x.f_begins, .fn x.f_long]
noncomputable def cashbooklaw14_few (l1 : List T_api_Token) : Option (List T_api_Token) :=
 (slO l1 0 (if 60 < (l1.length : Int) then 60 else (l1.length : Int))).bind fun x2 =>
 ((loopO (fun (qj3 : Int × (List T_api_Token)) => match qj3 with
   | (x4, row5) => (
    if (decide (x4 < (x2.length : Int))) = true then
     (rdO x2 x4).bind fun x6 =>
     (slO x6.f_Text 0 (if 60 < (x6.f_Text.length : Int) then 60 else (x6.f_Text.length : Int))).bind fun x7 =>
     (apO 40 row5 [(⟨x6.f_Kind, x6.f_Line, x6.f_Col, x7⟩ : T_api_Token)]).bind fun x8 =>
     some (.inl (IntKind.wrap .i64 (x4 + 1), x8))
    else
     some (.inr row5) : Option ((Int × (List T_api_Token)) ⊕ (List T_api_Token)))) (0, ([] : List T_api_Token))) : Option (List T_api_Token)).bind fun j3 =>
 some j3
def lex_kindsL : List T_lex_kind := [⟨47, 48⟩, ⟨49, 50⟩, ⟨51, 52⟩, ⟨53, 54⟩]
def lex_isLetter (b1 : Int) : Option Bool :=
 (some (decide (b1 ≥ 97))).bind fun c2 =>
 some (c2 && (decide (b1 ≤ 122)))
def lex_isDigit (b1 : Int) : Option Bool :=
 (some (decide (b1 ≥ 48))).bind fun c2 =>
 some (c2 && (decide (b1 ≤ 57)))
def lex_kinds_1 (b1 : Int) : Option Bool :=
 some (b1 == 34)
def lex_kinds_2 (x1 : Int) : Option Bool :=
 some true
def lex_call57 (f : Nat) (a0 : Int) : Option Bool := if f = 47 then lex_isLetter a0 else if f = 49 then lex_isDigit a0 else if f = 51 then lex_kinds_1 a0 else if f = 53 then lex_kinds_2 a0 else none
def lex_isOfWord (b1 : Int) : Option Bool :=
 (lex_isLetter b1).bind fun x2 =>
 (gdO (!x2) (lex_isDigit b1) (default : Bool)).bind fun x3 =>
 (some (x2 || x3)).bind fun c4 =>
 some (c4 || (b1 == 95))
def lex_run_1 (r1 : Int) : Option Bool :=
 (some (decide (r1 > 127))).bind fun c2 =>
 (gdO (!c2) (lex_isOfWord (IntKind.wrap .u8 r1)) (default : Bool)).bind fun x3 =>
 some (c2 || (!x3))
noncomputable def lex_run (s1 : List UInt8) : Option Int :=
 (strings_IndexFunc lex_run_1 s1).bind fun x2 =>
 if (decide (x2 < 0)) = true then
  some (s1.length : Int)
 else
  some x2
noncomputable def lex_word (s1 : List UInt8) : Option (Int × Int) :=
 (lex_run s1).bind fun x2 =>
 if (decide (x2 > 32)) = true then
  some (0, 3)
 else
  some (x2, 0)
def lex_run_1_1 (r1 : Int) : Option Bool :=
 (some (decide (r1 > 127))).bind fun c2 =>
 (gdO (!c2) (lex_isDigit (IntKind.wrap .u8 r1)) (default : Bool)).bind fun x3 =>
 some (c2 || (!x3))
noncomputable def lex_run_2 (s1 : List UInt8) : Option Int :=
 (strings_IndexFunc lex_run_1_1 s1).bind fun x2 =>
 if (decide (x2 < 0)) = true then
  some (s1.length : Int)
 else
  some x2
noncomputable def lex_number (s1 : List UInt8) : Option (Int × Int) :=
 (lex_run_2 s1).bind fun x2 =>
 (slO s1 x2 (s1.length : Int)).bind fun x3 =>
 (some (decide ((x3.length : Int) > 1))).bind fun c4 =>
 (gdO c4 (byO x3 0) 0).bind fun x5 =>
 ((if (c4 && (x5 == 46)) = true then
   (slO x3 1 (x3.length : Int)).bind fun x7 =>
   (lex_run_2 x7).bind fun x8 =>
   some x8
 else
  some 0) : Option Int).bind fun j6 =>
 (some (decide (x2 > 15))).bind fun c10 =>
 (some (c10 || (decide (j6 > 9)))).bind fun c11 =>
 (some (decide (x2 > 1))).bind fun c12 =>
 (gdO ((!c11) && c12) (byO s1 0) 0).bind fun x13 =>
 if (c11 || (c12 && (x13 == 48))) = true then
  some (0, 3)
 else
  if (decide (j6 > 0)) = true then
   some (IntKind.wrap .i64 ((IntKind.wrap .i64 (x2 + 1)) + j6), 0)
  else
   some (x2, 0)
def lex_quoted_1 (b1 : Int) : Option Bool :=
 (some (decide (b1 ≥ 32))).bind fun c2 =>
 some (c2 && (decide (b1 ≤ 126)))
def lex_run_1_2 (r1 : Int) : Option Bool :=
 (some (decide (r1 > 127))).bind fun c2 =>
 (gdO (!c2) (lex_quoted_1 (IntKind.wrap .u8 r1)) (default : Bool)).bind fun x3 =>
 some (c2 || (!x3))
noncomputable def lex_run_3 (s1 : List UInt8) : Option Int :=
 (strings_IndexFunc lex_run_1_2 s1).bind fun x2 =>
 if (decide (x2 < 0)) = true then
  some (s1.length : Int)
 else
  some x2
noncomputable def lex_quoted (s1 : List UInt8) : Option (Int × Int) :=
 (slO s1 1 (s1.length : Int)).bind fun x2 =>
 (strings_IndexByte x2 34).bind fun x3 =>
 if (decide (x3 < 0)) = true then
  some (0, 14)
 else
  (some (decide (x3 > 32))).bind fun c4 =>
  (gdO (!c4) (slO s1 1 (IntKind.wrap .i64 (1 + x3))) (default : List UInt8)).bind fun x5 =>
  (gdO (!c4) (lex_run_3 x5) (default : Int)).bind fun x6 =>
  if (c4 || (decide (x6 < x3))) = true then
   some (0, 3)
  else
   some (IntKind.wrap .i64 (x3 + 2), 0)
def lex_sign (s1 : List UInt8) : Option (Int × Int) :=
 (some (decide ((s1.length : Int) > 1))).bind fun c2 =>
 (gdO c2 (slO s1 0 2) (default : List UInt8)).bind fun x3 =>
 (gdO c2 (strings_Contains [60, 61, 32, 62, 61, 32, 46, 46] x3) (default : Bool)).bind fun x4 =>
 (some (c2 && x4)).bind fun c5 =>
 (gdO c5 (slO s1 0 2) (default : List UInt8)).bind fun x6 =>
 (gdO c5 (strings_Contains x6 [32]) (default : Bool)).bind fun x7 =>
 if (c5 && (!x7)) = true then
  some (2, 0)
 else
  (byO s1 0).bind fun x8 =>
  (strings_IndexByte [123, 125, 40, 41, 91, 93, 59, 58, 44, 37, 61, 60, 62, 43, 45, 42, 47] x8).bind fun x9 =>
  if (decide (x9 ≥ 0)) = true then
   some (1, 0)
  else
   some (0, 14)
noncomputable def lex_call58 (f : Nat) (a0 : List UInt8) : Option (Int × Int) := if f = 48 then lex_word a0 else if f = 50 then lex_number a0 else if f = 52 then lex_quoted a0 else if f = 54 then lex_sign a0 else none
noncomputable def lex_next (s1 : List UInt8) : Option (Int × Int × Int) :=
 ((loopO (fun (qj2 : Int) => match qj2 with
   | x3 => (
    if (decide (x3 < 4)) = true then
     (rdO lex_kindsL x3).bind fun x4 =>
     (byO s1 0).bind fun x5 =>
     (lex_call57 x4.f_begins x5).bind fun x6 =>
     if x6 = true then
      (lex_call58 x4.f_long s1).bind fun x7 =>
      some (.inr (.inr (x3, x7.1, x7.2)))
     else
      some (.inl (IntKind.wrap .i64 (x3 + 1)))
    else
     some (.inr (.inl ())) : Option (Int ⊕ (Unit ⊕ (Int × Int × Int))))) 0) : Option (Unit ⊕ (Int × Int × Int))).bind fun j2 => match j2 with
 | .inr o => some o
 | .inl _ =>
 some (0, 0, 14)
noncomputable def lex_Right (t1 : T_api_Token) : Option Bool :=
 if (t1.f_Text == []) = true then
  some false
 else
  (lex_next t1.f_Text).bind fun x2 =>
  (some (x2.2.2 == 0)).bind fun c3 =>
  (some (c3 && (x2.1 == t1.f_Kind))).bind fun c4 =>
  some (c4 && (x2.2.1 == (t1.f_Text.length : Int)))
noncomputable def lex_Join (l1 : List T_api_Token) : Option ((List UInt8) × Int) :=
 ((loopO (fun (qj2 : Int × (List (List UInt8))) => match qj2 with
   | (x3, row4) => (
    if (decide (x3 < (l1.length : Int))) = true then
     (rdO l1 x3).bind fun x5 =>
     (lex_Right x5).bind fun x6 =>
     if (!x6) = true then
      some (.inr (.inr ([], 1)))
     else
      (apO 16 row4 [x5.f_Text]).bind fun x7 =>
      some (.inl (IntKind.wrap .i64 (x3 + 1), x7))
    else
     some (.inr (.inl row4)) : Option ((Int × (List (List UInt8))) ⊕ ((List (List UInt8)) ⊕ ((List UInt8) × Int))))) (0, ([] : List (List UInt8)))) : Option ((List (List UInt8)) ⊕ ((List UInt8) × Int))).bind fun j2 => match j2 with
 | .inr o => some o
 | .inl pieces8 =>
 if (decide ((l1.length : Int) > 1500)) = true then
  some ([], 6)
 else
  (strings_Join pieces8 [32]).bind fun x9 =>
  if (decide ((x9.length : Int) > 8000)) = true then
   some ([], 4)
  else
   some (x9, 0)
noncomputable def lex_skip (s1 : List UInt8) : Option Int :=
 loopO (fun (qj2 : List UInt8) => match qj2 with
  | rest3 => (
   (strings_TrimLeft rest3 [32, 9, 10]).bind fun x4 =>
   (strings_HasPrefix x4 [35]).bind fun x5 =>
   if (!x5) = true then
    some (.inr (IntKind.wrap .i64 ((s1.length : Int) - (x4.length : Int))))
   else
    (strings_Cut x4 [10]).bind fun x6 =>
    if (!x6.2.2) = true then
     some (.inr (s1.length : Int))
    else
     some (.inl x6.2.1) : Option ((List UInt8) ⊕ Int))) s1
def lex_place (s1 : List UInt8) : Option (Int × Int) :=
 (strings_Count s1 [10]).bind fun x2 =>
 (strings_LastIndexByte s1 10).bind fun x3 =>
 some (IntKind.wrap .i64 (x2 + 1), IntKind.wrap .i64 ((s1.length : Int) - x3))
noncomputable def lex_All (text1 : List UInt8) : Option ((List T_api_Token) × Int × Int) :=
 if (decide ((text1.length : Int) > 8000)) = true then
  some (([] : List T_api_Token), 0, 4)
 else
  (lex_skip text1).bind fun x2 =>
  ((loopO (fun (qj3 : Int × (List T_api_Token)) => match qj3 with
    | (at_4, row5) => (
     if (decide (at_4 < (text1.length : Int))) = true then
      (slO text1 at_4 (text1.length : Int)).bind fun x6 =>
      (lex_next x6).bind fun x7 =>
      if (x7.2.2 != 0) = true then
       some (.inr (.inr (([] : List T_api_Token), at_4, x7.2.2)))
      else
       if ((row5.length : Int) == 1500) = true then
        some (.inr (.inr (([] : List T_api_Token), at_4, 6)))
       else
        (slO text1 0 at_4).bind fun x8 =>
        (lex_place x8).bind fun x9 =>
        (slO text1 at_4 (IntKind.wrap .i64 (at_4 + x7.2.1))).bind fun x10 =>
        (apO 40 row5 [(⟨x7.1, x9.1, x9.2, x10⟩ : T_api_Token)]).bind fun x11 =>
        (slO text1 (IntKind.wrap .i64 (at_4 + x7.2.1)) (text1.length : Int)).bind fun x12 =>
        (lex_skip x12).bind fun x13 =>
        some (.inl (IntKind.wrap .i64 ((IntKind.wrap .i64 (at_4 + x7.2.1)) + x13), x11))
     else
      some (.inr (.inl row5)) : Option ((Int × (List T_api_Token)) ⊕ ((List T_api_Token) ⊕ ((List T_api_Token) × Int × Int))))) (x2, ([] : List T_api_Token))) : Option ((List T_api_Token) ⊕ ((List T_api_Token) × Int × Int))).bind fun j3 => match j3 with
  | .inr o => some o
  | .inl out14 =>
  some (out14, 0, 0)
noncomputable def cashbooklaw14_alive : Option Bool :=
 (lex_All [114, 97, 116, 101, 32, 49, 46, 50, 53, 37, 32, 35, 32, 97, 32, 114, 101, 109, 97, 114, 107]).bind fun x1 =>
 (some (x1.2.2 == 0)).bind fun c2 =>
 (some (c2 && (x1.2.1 == 0))).bind fun c3 =>
 (some (c3 && ((x1.1.length : Int) == 3))).bind fun c4 =>
 (gdO c4 (rdO x1.1 1) (default : T_api_Token)).bind fun x5 =>
 (some (c4 && (T_api_Token.same x5 (⟨1, 1, 6, [49, 46, 50, 53]⟩ : T_api_Token)))).bind fun c6 =>
 (gdO c6 (rdO x1.1 2) (default : T_api_Token)).bind fun x7 =>
 some (c6 && (x7.f_Col == 10))
noncomputable def cashbookref14_Like (a1 : List T_api_Token) (b2 : List T_api_Token) : Option Bool :=
 if ((a1.length : Int) != (b2.length : Int)) = true then
  some false
 else
  ((loopO (fun (qj3 : Int) => match qj3 with
    | x4 => (
     if (decide (x4 < (a1.length : Int))) = true then
      (rdO a1 x4).bind fun x5 =>
      (rdO b2 x4).bind fun x6 =>
      (some (x5.f_Kind != x6.f_Kind)).bind fun c7 =>
      (gdO (!c7) (rdO a1 x4) (default : T_api_Token)).bind fun x8 =>
      (gdO (!c7) (rdO b2 x4) (default : T_api_Token)).bind fun x9 =>
      if (c7 || (!(x8.f_Text == x9.f_Text))) = true then
       some (.inr (.inr false))
      else
       some (.inl (IntKind.wrap .i64 (x4 + 1)))
     else
      some (.inr (.inl ())) : Option (Int ⊕ (Unit ⊕ Bool)))) 0) : Option (Unit ⊕ Bool)).bind fun j3 => match j3 with
  | .inr o => some o
  | .inl _ =>
  some true
noncomputable def cashbooklaw14_LexBlanks (l1 : List T_api_Token) (k2 : Int) (some3 : List Int) (remark4 : List UInt8) : Option Bool :=
 (cashbooklaw14_few l1).bind fun x5 =>
 (slO remark4 0 (if 30 < (remark4.length : Int) then 30 else (remark4.length : Int))).bind fun x6 =>
 (lex_Join x5).bind fun x7 =>
 if (x7.2 != 0) = true then
  (cashbooklaw14_alive).bind fun x8 =>
  some (x8 && (x7.1 == []))
 else
  (remO .i64 k2 (IntKind.wrap .i64 ((x5.length : Int) + 1))).bind fun x9 =>
  (remO .i64 (IntKind.wrap .i64 ((IntKind.wrap .i64 (x9 + (x5.length : Int))) + 1)) (IntKind.wrap .i64 ((x5.length : Int) + 1))).bind fun x10 =>
  (slO x5 0 x10).bind fun x11 =>
  (lex_Join x11).bind fun x12 =>
  (slO x5 x10 (x5.length : Int)).bind fun x13 =>
  (lex_Join x13).bind fun x14 =>
  (slO some3 0 (if 10 < (some3.length : Int) then 10 else (some3.length : Int))).bind fun x15 =>
  ((loopO (fun (qj16 : (List UInt8) × Int) => match qj16 with
    | (between17, x18) => (
     if (decide (x18 < (x15.length : Int))) = true then
      (rdO x15 x18).bind fun x19 =>
      (byO [32, 9, 10] (Int.tmod x19 3)).bind fun x20 =>
      (catO between17 (List.map (fun n => UInt8.ofNat (Int.toNat n)) [x20])).bind fun x21 =>
      some (.inl (x21, IntKind.wrap .i64 (x18 + 1)))
     else
      some (.inr between17) : Option (((List UInt8) × Int) ⊕ (List UInt8)))) ([32], 0)) : Option (List UInt8)).bind fun j16 =>
  ((loopO (fun (qj23 : (List UInt8) × Int) => match qj23 with
    | (line24, x25) => (
     if (decide (x25 < (x6.length : Int))) = true then
      (byO x6 x25).bind fun x26 =>
      ((if (x26 != 10) = true then
        (slO x6 x25 (IntKind.wrap .i64 (x25 + 1))).bind fun x28 =>
        (catO line24 x28).bind fun x29 =>
        some x29
      else
       some line24) : Option (List UInt8)).bind fun j27 =>
      some (.inl (j27, IntKind.wrap .i64 (x25 + 1)))
     else
      some (.inr line24) : Option (((List UInt8) × Int) ⊕ (List UInt8)))) ([], 0)) : Option (List UInt8)).bind fun j23 =>
  (catO x12.1 j16).bind fun x32 =>
  (catO x32 [35]).bind fun x33 =>
  (catO x33 j23).bind fun x34 =>
  (catO x34 [10]).bind fun x35 =>
  (catO x35 x14.1).bind fun x36 =>
  (lex_All x36).bind fun x37 =>
  (cashbooklaw14_alive).bind fun x38 =>
  (some (x38 && (x12.2 == 0))).bind fun c39 =>
  (some (c39 && (x14.2 == 0))).bind fun c40 =>
  (some (c40 && (x37.2.2 == 0))).bind fun c41 =>
  (some (c41 && (x37.2.1 == 0))).bind fun c42 =>
  (gdO c42 (cashbookref14_Like x5 x37.1) (default : Bool)).bind fun x43 =>
  some (c42 && x43)
end Go.Av.G
end
section
set_option linter.unusedVariables false
set_option linter.unusedSimpArgs false
set_option maxRecDepth 100000
set_option maxHeartbeats 8000000
namespace Go.Av.G
open Go Go.Av Go.Proofs
def pcashbooklaw14_fewr0 : List GOp := [⟨(some 2), none, .mov .nils⟩]
def pcashbooklaw14_fewr1 : List GOp := [⟨(some 3), none, .mov .nils⟩]
def pcashbooklaw14_fewr2 : List GOp := [⟨(some 6), none, .mov (.tmp 0)⟩, ⟨(some 7), none, .mov (.tmp 0)⟩, ⟨(some 8), none, .len false (.tmp 7)⟩, ⟨(some 9), none, .mm false (.tmp 8) [(.cst (.int .i64 60))]⟩, ⟨(some 10), none, .slc false 4 (.tmp 6) none (some (.tmp 9))⟩, ⟨(some 11), none, .len false (.tmp 10)⟩, ⟨(some 12), none, .mov (.cst (.int .i64 0))⟩]
def pcashbooklaw14_fewr3 : List GOp := [⟨(some 13), none, .bin false .lss (.tmp 12) (.tmp 11)⟩]
def pcashbooklaw14_fewr4 : List GOp := [⟨(some 14), none, .idx 4 (.tmp 10) (.tmp 12)⟩, ⟨(some 15), none, .load true 4 (.tmp 14)⟩, ⟨(some 5), none, .alloc [.pv (.int .i64 0), .pv (.int .i64 0), .pv (.int .i64 0), .pv (.str [])]⟩, ⟨none, none, .store 4 (.tmp 5) (.tmp 15)⟩]
def pcashbooklaw14_fewr5 : List GOp := [⟨(some 16), none, .fld 3 (.tmp 5)⟩, ⟨(some 17), none, .load false 1 (.tmp 16)⟩, ⟨(some 18), none, .fld 3 (.tmp 5)⟩, ⟨(some 19), none, .load false 1 (.tmp 18)⟩, ⟨(some 20), none, .len true (.tmp 19)⟩, ⟨(some 21), none, .mm false (.tmp 20) [(.cst (.int .i64 60))]⟩, ⟨(some 22), none, .slc true 0 (.tmp 17) none (some (.tmp 21))⟩, ⟨(some 23), none, .fld 3 (.tmp 5)⟩, ⟨none, none, .store 1 (.tmp 23) (.tmp 22)⟩]
def pcashbooklaw14_fewr6 : List GOp := [⟨(some 24), none, .mov (.tmp 3)⟩, ⟨(some 25), none, .load true 4 (.tmp 5)⟩, ⟨(some 26), none, .lit false 4 [(.tmp 25)]⟩, ⟨(some 27), none, .append 3 4 40 (.tmp 24) (.tmp 26)⟩, ⟨(some 3), none, .mov (.tmp 27)⟩]
def pcashbooklaw14_fewr7 : List GOp := [⟨(some 28), none, .bin false .add (.tmp 12) (.cst (.int .i64 1))⟩, ⟨(some 12), none, .mov (.tmp 28)⟩]
def pcashbooklaw14_fewl8 : AC := (.keep [] [(3, false), (10, false), (11, false), (12, false)] [(.loc 3 0, false)] [.loc 5 0] [.slot 3 (.loc 3 0) 4] (.seq (.ops pcashbooklaw14_fewr3) (.seq (.cond (.tmp 13) .skip (.exit 0)) (.seq (.pass 1 (.seq (.ops pcashbooklaw14_fewr4) (.seq (.ops pcashbooklaw14_fewr5) (.ops pcashbooklaw14_fewr6)))) (.ops pcashbooklaw14_fewr7)))))
def pcashbooklaw14_fewr9 : List GOp := [⟨(some 29), none, .mov (.tmp 3)⟩, ⟨(some 2), none, .mov (.tmp 29)⟩]
def pcashbooklaw14_fewb : AC := (.seq (.ops pcashbooklaw14_fewr0) (.seq (.ops pcashbooklaw14_fewr1) (.seq (.seq (.ops pcashbooklaw14_fewr2) (.block 0 (.loop [3, 10, 11, 12] [] pcashbooklaw14_fewl8))) (.seq (.keep [.loc 3 0] [(3, true)] [] [] [] (.ops pcashbooklaw14_fewr9)) (.keep [] [(2, false)] [] [] [] .ret)))))
def pcashbooklaw14_few : Fd := ⟨1, [.tmp 2], [], pcashbooklaw14_fewb⟩
theorem pcashbooklaw14_few_ag : agreeF Tryd.prog Tryd.f15 pcashbooklaw14_few = true := by kernel_rfl
theorem cashbooklaw14_few_ok {l1 : List T_api_Token} {r : List T_api_Token} (h : cashbooklaw14_few l1 = some r) : Contract Tryd.prog 15 [.pv (.slice (List.map T_api_Token.pv l1))] [] ⟨.pv (.slice (List.map T_api_Token.pv r)), [], []⟩ := by
 refine contract_fin hm Tryd.func15 pcashbooklaw14_few_ag (by kernel_rfl) ?_
 unfold cashbooklaw14_few at h
 refine W.seqOps (RunR.all (by kernel_rfl)) ?_
 refine W.seqOps (RunR.all (by kernel_rfl)) ?_
 refine W.assoc ?_
 replace h := bindS h
 obtain ⟨x2, hx2, h⟩ := h
 refine W.seqOps (RunR.stat 2 (by kernel_rfl) (RunR.dyn (Step.lenT (f := T_api_Token.pv) (l := l1) (by kernel_rfl)) (RunR.stat 1 (by kernel_rfl) (RunR.dyn (Step.slcL (f := T_api_Token.pv) (l := l1) (m := x2) (a := 0) (b := (if 60 < (l1.length : Int) then 60 else (l1.length : Int))) (by kernel_rfl) (Bd.none rfl) (Bd.some (k := .i64) (by kernel_rfl)) hx2 (fun _ => rfl)) (RunR.dyn (Step.lenT (f := T_api_Token.pv) (l := x2) (by kernel_rfl)) (RunR.all (by kernel_rfl))))))) ?_
 replace h := bindS h
 obtain ⟨j3, hj3, h⟩ := h
 refine W.join (j := j3) (fun p σ => σ.tidy [.loc 3 0] [(3, true)] [] [] [] = ⟨[(3, .pv (.slice (List.map T_api_Token.pv p)))], []⟩) ?_ (fun σj3 hsj3 => ?_)
 ·refine W.blockLoop (fun q σ => ((σ.forget [3, 10, 11, 12]).killAll []).tidy [] [(3, false), (10, false), (11, false), (12, false)] [(.loc 3 0, false)] [.loc 5 0] [.slot 3 (.loc 3 0) 4] = ⟨[(3, .own (.loc 3 0)), (10, .pv (.slice (List.map T_api_Token.pv x2))), (11, .pv (.int .i64 (x2.length : Int))), (12, .pv (.int .i64 q.1))], [(.loc 3 0, .row 4 (List.map T_api_Token.pv q.2))]⟩) hj3 ?_ ?_
  ·show _ = _
   kernel_rfl
  ·intro q σj3 oj3 hJj3 h
   obtain ⟨x4, row5⟩ := q
   refine W.keep hJj3 ?_
   refine W.seqOps (RunR.all (by kernel_rfl)) ?_
   refine W.seqCond (t := decide (x4 < (x2.length : Int))) (by kernel_rfl) h (fun hc h' => ?_) (fun hc h' => ?_)
   ·replace h := h'
    refine W.seqSkip ?_
    refine W.seqPass ?_
    refine W.assoc ?_
    replace h := bindS h
    obtain ⟨x6, hx6, h⟩ := h
    refine W.seqOps (RunR.dyn (Step.idxT (f := T_api_Token.pv) (l := x2) (n := x4) (e := x6) (k := .i64) (by kernel_rfl) (by kernel_rfl) hx6 (by kernel_rfl)) (RunR.all (by kernel_rfl))) ?_
    refine W.assoc ?_
    replace h := bindS h
    obtain ⟨x7, hx7, h⟩ := h
    refine W.seqOps (RunR.stat 6 (by kernel_rfl) (RunR.dyn (Step.slcS (s := x6.f_Text) (m := x7) (a := 0) (b := (if 60 < (x6.f_Text.length : Int) then 60 else (x6.f_Text.length : Int))) (by kernel_rfl) (Bd.none rfl) (Bd.some (k := .i64) (by kernel_rfl)) hx7) (RunR.all (by kernel_rfl)))) ?_
    replace h := bindS h
    obtain ⟨x8, hx8, h⟩ := h
    refine W.seqOps (RunR.stat 3 (by kernel_rfl) (RunR.dyn (Step.appendOwnT (k := .loc 3 0) (f := T_api_Token.pv) (l := row5) (m := [(⟨x6.f_Kind, x6.f_Line, x6.f_Col, x7⟩ : T_api_Token)]) (by kernel_rfl) (by kernel_rfl) (by kernel_rfl) hx8 (fun _ => rfl) (by kernel_rfl)) (RunR.all (by kernel_rfl)))) ?_
    refine W.ops (RunR.all (by kernel_rfl)) ?_
    cases h
    exact (outw_in (by (show _ = _); kernel_rfl))
   ·replace h := h'
    cases h
    exact W.seqExit ((outw_out exit_ne (bnorm_x (by (show _ = _); kernel_rfl))))
 ·refine W.seqKeep hsj3 ?_
  refine W.seqOps (RunR.all (by kernel_rfl)) ?_
  refine W.keep rfl ?_
  cases h
  exact W.ret ((fin_ret (by kernel_rfl)))
def plex_kindsr0 : List GOp := [⟨(some 0), none, .alloc [.pv .nilFn, .pv .nilFn, .pv .nilFn, .pv .nilFn, .pv .nilFn, .pv .nilFn, .pv .nilFn, .pv .nilFn]⟩]
def plex_kindsr1 : List GOp := [⟨(some 1), none, .build [.pv .nilFn, .pv .nilFn] [(0, 1, (.cst (.fn 47))), (1, 1, (.cst (.fn 48)))]⟩, ⟨(some 2), none, .build [.pv .nilFn, .pv .nilFn] [(0, 1, (.cst (.fn 49))), (1, 1, (.cst (.fn 50)))]⟩, ⟨(some 3), none, .build [.pv .nilFn, .pv .nilFn] [(0, 1, (.cst (.fn 51))), (1, 1, (.cst (.fn 52)))]⟩, ⟨(some 4), none, .build [.pv .nilFn, .pv .nilFn] [(0, 1, (.cst (.fn 53))), (1, 1, (.cst (.fn 54)))]⟩, ⟨(some 5), none, .build [.pv .nilFn, .pv .nilFn, .pv .nilFn, .pv .nilFn, .pv .nilFn, .pv .nilFn, .pv .nilFn, .pv .nilFn] [(0, 2, (.tmp 1)), (2, 2, (.tmp 2)), (4, 2, (.tmp 3)), (6, 2, (.tmp 4))]⟩, ⟨none, none, .store 8 (.tmp 0) (.tmp 5)⟩]
def plex_kinds : Fd := ⟨0, [.cell 0 true 8], [], (.seq (.ops plex_kindsr0) (.seq (.ops plex_kindsr1) .ret))⟩
theorem plex_kinds_ag : agreeF Tryd.prog Tryd.f29 plex_kinds = true := by kernel_rfl
theorem lex_kinds_ok : Contract Tryd.prog 29 [] [] ⟨.pv (.agg (List.flatMap T_lex_kind.cl lex_kindsL)), [], []⟩ := by
 refine contract_fin hm Tryd.func29 plex_kinds_ag (by kernel_rfl) ?_
 refine W.seqOps (RunR.all (by kernel_rfl)) ?_
 refine W.seqOps (RunR.all (by kernel_rfl)) ?_
 exact W.ret (fin_ret (by kernel_rfl))
def plex_isLetterr0 : List GOp := [⟨(some 2), none, .mov (.cst (.bool false))⟩]
def plex_isLetterr1 : List GOp := [⟨(some 3), none, .mov (.tmp 0)⟩, ⟨(some 4), none, .bin false .geq (.tmp 3) (.cst (.int .u8 97))⟩, ⟨(some 5), none, .mov (.tmp 4)⟩, ⟨(some 6), (some (5, true)), .mov (.tmp 0)⟩, ⟨(some 7), (some (5, true)), .bin false .leq (.tmp 6) (.cst (.int .u8 122))⟩, ⟨(some 8), none, .pick (.tmp 5) (.tmp 7) (.cst (.bool false))⟩, ⟨(some 2), none, .mov (.tmp 8)⟩]
def plex_isLetterb : AC := (.seq (.ops plex_isLetterr0) (.seq (.ops plex_isLetterr1) (.keep [] [(2, false)] [] [] [] .ret)))
def plex_isLetter : Fd := ⟨1, [.tmp 2], [], plex_isLetterb⟩
theorem plex_isLetter_ag : agreeF Tryd.prog Tryd.f47 plex_isLetter = true := by kernel_rfl
theorem lex_isLetter_ok {b1 : Int} {r : Bool} (h : lex_isLetter b1 = some r) : Contract Tryd.prog 47 [.pv (.int .u8 b1)] [] ⟨.pv (.bool r), [], []⟩ := by
 refine contract_fin hm Tryd.func47 plex_isLetter_ag (by kernel_rfl) ?_
 unfold lex_isLetter at h
 refine W.seqOps (RunR.all (by kernel_rfl)) ?_
 replace h := bindS h
 obtain ⟨c2, hc2, h⟩ := h
 refine W.seqOps (RunR.stat 2 (by kernel_rfl) (RunR.dyn (Step.name (f := eBool) (e := decide (b1 ≥ 97)) (c := c2) (by kernel_rfl) hc2) (RunR.puts 3 [(8, .pv (.bool (c2 && (decide (b1 ≤ 122))))), (7, (bif c2 then (.pv (.bool (decide (b1 ≤ 122)))) else (.tup []))), (6, (bif c2 then (.pv (.int .u8 b1)) else (.tup [])))] (by cases c2 <;> kernel_rfl) (RunR.all (by kernel_rfl))))) ?_
 refine W.keep rfl ?_
 cases h
 exact W.ret ((fin_ret (by kernel_rfl)))
def plex_isDigitr0 : List GOp := [⟨(some 2), none, .mov (.cst (.bool false))⟩]
def plex_isDigitr1 : List GOp := [⟨(some 3), none, .mov (.tmp 0)⟩, ⟨(some 4), none, .bin false .geq (.tmp 3) (.cst (.int .u8 48))⟩, ⟨(some 5), none, .mov (.tmp 4)⟩, ⟨(some 6), (some (5, true)), .mov (.tmp 0)⟩, ⟨(some 7), (some (5, true)), .bin false .leq (.tmp 6) (.cst (.int .u8 57))⟩, ⟨(some 8), none, .pick (.tmp 5) (.tmp 7) (.cst (.bool false))⟩, ⟨(some 2), none, .mov (.tmp 8)⟩]
def plex_isDigitb : AC := (.seq (.ops plex_isDigitr0) (.seq (.ops plex_isDigitr1) (.keep [] [(2, false)] [] [] [] .ret)))
def plex_isDigit : Fd := ⟨1, [.tmp 2], [], plex_isDigitb⟩
theorem plex_isDigit_ag : agreeF Tryd.prog Tryd.f49 plex_isDigit = true := by kernel_rfl
theorem lex_isDigit_ok {b1 : Int} {r : Bool} (h : lex_isDigit b1 = some r) : Contract Tryd.prog 49 [.pv (.int .u8 b1)] [] ⟨.pv (.bool r), [], []⟩ := by
 refine contract_fin hm Tryd.func49 plex_isDigit_ag (by kernel_rfl) ?_
 unfold lex_isDigit at h
 refine W.seqOps (RunR.all (by kernel_rfl)) ?_
 replace h := bindS h
 obtain ⟨c2, hc2, h⟩ := h
 refine W.seqOps (RunR.stat 2 (by kernel_rfl) (RunR.dyn (Step.name (f := eBool) (e := decide (b1 ≥ 48)) (c := c2) (by kernel_rfl) hc2) (RunR.puts 3 [(8, .pv (.bool (c2 && (decide (b1 ≤ 57))))), (7, (bif c2 then (.pv (.bool (decide (b1 ≤ 57)))) else (.tup []))), (6, (bif c2 then (.pv (.int .u8 b1)) else (.tup [])))] (by cases c2 <;> kernel_rfl) (RunR.all (by kernel_rfl))))) ?_
 refine W.keep rfl ?_
 cases h
 exact W.ret ((fin_ret (by kernel_rfl)))
def plex_kinds_1r0 : List GOp := [⟨(some 2), none, .mov (.cst (.bool false))⟩]
def plex_kinds_1r1 : List GOp := [⟨(some 3), none, .mov (.tmp 0)⟩, ⟨(some 4), none, .bin false .eql (.tmp 3) (.cst (.int .u8 34))⟩, ⟨(some 2), none, .mov (.tmp 4)⟩]
def plex_kinds_1b : AC := (.seq (.ops plex_kinds_1r0) (.seq (.ops plex_kinds_1r1) (.keep [] [(2, false)] [] [] [] .ret)))
def plex_kinds_1 : Fd := ⟨1, [.tmp 2], [], plex_kinds_1b⟩
theorem plex_kinds_1_ag : agreeF Tryd.prog Tryd.f51 plex_kinds_1 = true := by kernel_rfl
theorem lex_kinds_1_ok {b1 : Int} {r : Bool} (h : lex_kinds_1 b1 = some r) : Contract Tryd.prog 51 [.pv (.int .u8 b1)] [] ⟨.pv (.bool r), [], []⟩ := by
 refine contract_fin hm Tryd.func51 plex_kinds_1_ag (by kernel_rfl) ?_
 unfold lex_kinds_1 at h
 refine W.seqOps (RunR.all (by kernel_rfl)) ?_
 refine W.seqOps (RunR.all (by kernel_rfl)) ?_
 refine W.keep rfl ?_
 cases h
 exact W.ret ((fin_ret (by kernel_rfl)))
def plex_kinds_2r0 : List GOp := [⟨(some 2), none, .mov (.cst (.bool false))⟩]
def plex_kinds_2r1 : List GOp := [⟨(some 2), none, .mov (.cst (.bool true))⟩]
def plex_kinds_2b : AC := (.seq (.ops plex_kinds_2r0) (.seq (.ops plex_kinds_2r1) (.keep [] [(2, false)] [] [] [] .ret)))
def plex_kinds_2 : Fd := ⟨1, [.tmp 2], [], plex_kinds_2b⟩
theorem plex_kinds_2_ag : agreeF Tryd.prog Tryd.f53 plex_kinds_2 = true := by kernel_rfl
theorem lex_kinds_2_ok {x1 : Int} {r : Bool} (h : lex_kinds_2 x1 = some r) : Contract Tryd.prog 53 [.pv (.int .u8 x1)] [] ⟨.pv (.bool r), [], []⟩ := by
 refine contract_fin hm Tryd.func53 plex_kinds_2_ag (by kernel_rfl) ?_
 unfold lex_kinds_2 at h
 refine W.seqOps (RunR.all (by kernel_rfl)) ?_
 refine W.seqOps (RunR.all (by kernel_rfl)) ?_
 refine W.keep rfl ?_
 cases h
 exact W.ret ((fin_ret (by kernel_rfl)))
theorem lex_call57_ok {f : Nat} {a0 : Int} {r : Bool} (h : lex_call57 f a0 = some r) : Contract Tryd.prog f [.pv (.int .u8 a0)] [] ⟨.pv (.bool r), [], []⟩ := by
 unfold lex_call57 at h
 split at h
 ·rename_i e; subst e; exact lex_isLetter_ok h
 split at h
 ·rename_i e; subst e; exact lex_isDigit_ok h
 split at h
 ·rename_i e; subst e; exact lex_kinds_1_ok h
 split at h
 ·rename_i e; subst e; exact lex_kinds_2_ok h
 cases h
def plex_isOfWordr0 : List GOp := [⟨(some 2), none, .mov (.cst (.bool false))⟩]
def plex_isOfWordr1 : List GOp := [⟨(some 3), none, .mov (.tmp 0)⟩, ⟨(some 4), none, .call 0 0 (.cst (.fn 47)) [(.tmp 3)] [] []⟩, ⟨(some 5), none, .mov (.tmp 4)⟩, ⟨(some 6), (some (5, false)), .mov (.tmp 0)⟩, ⟨(some 7), (some (5, false)), .call 0 0 (.cst (.fn 49)) [(.tmp 6)] [] []⟩, ⟨(some 8), none, .pick (.tmp 5) (.cst (.bool true)) (.tmp 7)⟩, ⟨(some 9), none, .mov (.tmp 8)⟩, ⟨(some 10), (some (9, false)), .mov (.tmp 0)⟩, ⟨(some 11), (some (9, false)), .bin false .eql (.tmp 10) (.cst (.int .u8 95))⟩, ⟨(some 12), none, .pick (.tmp 9) (.cst (.bool true)) (.tmp 11)⟩, ⟨(some 2), none, .mov (.tmp 12)⟩]
def plex_isOfWordb : AC := (.seq (.ops plex_isOfWordr0) (.seq (.ops plex_isOfWordr1) (.keep [] [(2, false)] [] [] [] .ret)))
def plex_isOfWord : Fd := ⟨1, [.tmp 2], [], plex_isOfWordb⟩
theorem plex_isOfWord_ag : agreeF Tryd.prog Tryd.f67 plex_isOfWord = true := by kernel_rfl
theorem lex_isOfWord_ok {b1 : Int} {r : Bool} (h : lex_isOfWord b1 = some r) : Contract Tryd.prog 67 [.pv (.int .u8 b1)] [] ⟨.pv (.bool r), [], []⟩ := by
 refine contract_fin hm Tryd.func67 plex_isOfWord_ag (by kernel_rfl) ?_
 unfold lex_isOfWord at h
 refine W.seqOps (RunR.all (by kernel_rfl)) ?_
 replace h := bindS h
 obtain ⟨x2, hx2, h⟩ := h
 replace h := bindS h
 obtain ⟨x3, hx3, h⟩ := h
 replace h := bindS h
 obtain ⟨c4, hc4, h⟩ := h
 refine W.seqOps (RunR.stat 1 (by kernel_rfl) (RunR.cons (tab_cons (on := true) (fun _ => lex_isLetter_ok hx2) tab_nil) (Step.call0 (g := 47) (caps := []) (v := .pv (.bool x2)) (by kernel_rfl) (by kernel_rfl) (by kernel_rfl) (tab_hit (by kernel_rfl)) (by kernel_rfl)) (RunR.stat 1 (by kernel_rfl) (RunR.puts 1 [(6, (bif !x2 then (.pv (.int .u8 b1)) else (.tup [])))] (by cases x2 <;> kernel_rfl) (RunR.cons (tab_cons (on := (!x2)) (fun hg => lex_isDigit_ok (gdO_at hg hx3)) tab_nil) (Step.gdG (!x2) (by kernel_rfl) (by
    cases x2
    ·exact .inr ⟨by kernel_rfl, by kernel_rfl, Step.call0 (g := 49) (caps := []) (v := .pv (.bool x3)) (by kernel_rfl) (by kernel_rfl) (by kernel_rfl) (tab_hit (by kernel_rfl)) (by kernel_rfl)⟩
    ·exact .inl ⟨by kernel_rfl, by kernel_rfl⟩)) (RunR.puts 1 [(8, .pv (.bool (x2 || x3)))] (by cases x2 <;> kernel_rfl) (RunR.dyn (Step.name (f := eBool) (e := (x2 || x3)) (c := c4) (by kernel_rfl) hc4) (RunR.puts 3 [(12, .pv (.bool (c4 || (b1 == 95)))), (11, (bif !c4 then (.pv (.bool (b1 == 95))) else (.tup []))), (10, (bif !c4 then (.pv (.int .u8 b1)) else (.tup [])))] (by cases c4 <;> kernel_rfl) (RunR.all (by kernel_rfl)))))))))) ?_
 refine W.keep rfl ?_
 cases h
 exact W.ret ((fin_ret (by kernel_rfl)))
def plex_run_1r0 : List GOp := [⟨(some 3), none, .mov (.cst (.bool false))⟩]
def plex_run_1r1 : List GOp := [⟨(some 4), none, .mov (.tmp 0)⟩, ⟨(some 5), none, .bin false .gtr (.tmp 4) (.cst (.int .i32 127))⟩, ⟨(some 6), none, .mov (.tmp 5)⟩, ⟨(some 7), (some (6, false)), .load false 1 (.tmp 1)⟩, ⟨(some 8), (some (6, false)), .mov (.tmp 0)⟩, ⟨(some 9), (some (6, false)), .conv .u8 (.tmp 8)⟩, ⟨(some 10), (some (6, false)), .call 0 0 (.tmp 7) [(.tmp 9)] [] []⟩, ⟨(some 11), (some (6, false)), .un .not (.tmp 10)⟩, ⟨(some 12), none, .pick (.tmp 6) (.cst (.bool true)) (.tmp 11)⟩, ⟨(some 3), none, .mov (.tmp 12)⟩]
def plex_run_1b : AC := (.seq (.ops plex_run_1r0) (.seq (.ops plex_run_1r1) (.keep [] [(3, false)] [] [] [] .ret)))
def plex_run_1 : Fd := ⟨2, [.tmp 3], [], plex_run_1b⟩
theorem plex_run_1_ag : agreeF Tryd.prog Tryd.f80 plex_run_1 = true := by kernel_rfl
theorem lex_run_1_ok {r1 : Int} {r : Bool} (h : lex_run_1 r1 = some r) : Contract Tryd.prog 80 [.pv (.int .i32 r1), .ipv (.agg [.fn 67]) 0] [] ⟨.pv (.bool r), [], []⟩ := by
 refine contract_fin hm Tryd.func80 plex_run_1_ag (by kernel_rfl) ?_
 unfold lex_run_1 at h
 refine W.seqOps (RunR.all (by kernel_rfl)) ?_
 replace h := bindS h
 obtain ⟨c2, hc2, h⟩ := h
 replace h := bindS h
 obtain ⟨x3, hx3, h⟩ := h
 refine W.seqOps (RunR.stat 2 (by kernel_rfl) (RunR.dyn (Step.name (f := eBool) (e := decide (r1 > 127)) (c := c2) (by kernel_rfl) hc2) (RunR.puts 3 [(9, (bif !c2 then (.pv (.int .u8 (IntKind.wrap .u8 r1))) else (.tup []))), (8, (bif !c2 then (.pv (.int .i32 r1)) else (.tup []))), (7, (bif !c2 then (.pv (.fn 67)) else (.tup [])))] (by cases c2 <;> kernel_rfl) (RunR.cons (tab_cons (on := (!c2)) (fun hg => lex_isOfWord_ok (gdO_at hg hx3)) tab_nil) (Step.gdG (!c2) (by kernel_rfl) (by
    cases c2
    ·exact .inr ⟨by kernel_rfl, by kernel_rfl, Step.call0 (g := 67) (caps := []) (v := .pv (.bool x3)) (by kernel_rfl) (by kernel_rfl) (by kernel_rfl) (tab_hit (by kernel_rfl)) (by kernel_rfl)⟩
    ·exact .inl ⟨by kernel_rfl, by kernel_rfl⟩)) (RunR.puts 2 [(12, .pv (.bool (c2 || (!x3)))), (11, (bif !c2 then (.pv (.bool (!x3))) else (.tup [])))] (by cases c2 <;> kernel_rfl) (RunR.all (by kernel_rfl))))))) ?_
 refine W.keep rfl ?_
 cases h
 exact W.ret ((fin_ret (by kernel_rfl)))
def plex_runr0 : List GOp := [⟨(some 3), none, .box (.tmp 1)⟩, ⟨(some 4), none, .mov (.cst (.int .i64 0))⟩]
def plex_runr1 : List GOp := [⟨(some 6), none, .mov (.tmp 0)⟩, ⟨(some 7), none, .mkfn 80 [(.tmp 3)]⟩, ⟨(some 8), none, .call 0 0 (.cst (.fn 79)) [(.tmp 6), (.tmp 7)] [] []⟩, ⟨(some 5), none, .mov (.tmp 8)⟩]
def plex_runr2 : List GOp := [⟨(some 9), none, .mov (.tmp 5)⟩, ⟨(some 10), none, .bin false .lss (.tmp 9) (.cst (.int .i64 0))⟩]
def plex_runr3 : List GOp := [⟨(some 11), none, .mov (.tmp 0)⟩, ⟨(some 12), none, .len true (.tmp 11)⟩, ⟨(some 4), none, .mov (.tmp 12)⟩]
def plex_runr4 : List GOp := [⟨(some 13), none, .mov (.tmp 5)⟩, ⟨(some 4), none, .mov (.tmp 13)⟩]
def plex_runb : AC := (.seq (.ops plex_runr0) (.seq (.keep [.loc 3 0] [(0, false), (3, false)] [] [] [] (.ops plex_runr1)) (.seq (.seq (.ops plex_runr2) (.cond (.tmp 10) (.seq (.ops plex_runr3) (.keep [] [(4, false)] [] [] [] .ret)) .skip)) (.seq (.ops plex_runr4) (.keep [] [(4, false)] [] [] [] .ret)))))
def plex_run : Fd := ⟨2, [.tmp 4], [], plex_runb⟩
theorem plex_run_ag : agreeF Tryd.prog Tryd.f66 plex_run = true := by kernel_rfl
theorem lex_run_ok {s1 : List UInt8} {r : Int} (h : lex_run s1 = some r) : Contract Tryd.prog 66 [.pv (.str s1), .pv (.fn 67)] [] ⟨.pv (.int .i64 r), [], []⟩ := by
 refine contract_fin hm Tryd.func66 plex_run_ag (by kernel_rfl) ?_
 unfold lex_run at h
 refine W.seqOps (RunR.all (by kernel_rfl)) ?_
 replace h := bindS h
 obtain ⟨x2, hx2, h⟩ := h
 refine W.seqKeep rfl ?_
 refine W.seqOps (RunR.stat 2 (by kernel_rfl) (RunR.cons (tab_cons (on := true) (fun _ => strings_IndexFunc_ok (fun x r h => lex_run_1_ok h) hx2 held_fn) tab_nil) (Step.call0 (g := 79) (caps := []) (v := .pv (.int .i64 x2)) (by kernel_rfl) (by kernel_rfl) (by kernel_rfl) (tab_hit (by kernel_rfl)) (by kernel_rfl)) (RunR.all (by kernel_rfl)))) ?_
 refine W.assoc ?_
 refine W.seqOps (RunR.all (by kernel_rfl)) ?_
 refine W.seqCond (t := decide (x2 < 0)) (by kernel_rfl) h (fun hc h' => ?_) (fun hc h' => ?_)
 ·replace h := h'
  refine W.assoc ?_
  refine W.seqOps (RunR.all (by kernel_rfl)) ?_
  refine W.seqKeep rfl ?_
  cases h
  exact W.seqRet ((fin_ret (by kernel_rfl)))
 ·replace h := h'
  refine W.seqSkip ?_
  refine W.seqOps (RunR.all (by kernel_rfl)) ?_
  refine W.keep rfl ?_
  cases h
  exact W.ret ((fin_ret (by kernel_rfl)))
def plex_wordr0 : List GOp := [⟨(some 2), none, .mov (.cst (.int .i64 0))⟩, ⟨(some 3), none, .mov (.cst (.int .i64 0))⟩]
def plex_wordr1 : List GOp := [⟨(some 5), none, .mov (.tmp 0)⟩, ⟨(some 6), none, .call 0 0 (.cst (.fn 66)) [(.tmp 5), (.cst (.fn 67))] [] []⟩, ⟨(some 4), none, .mov (.tmp 6)⟩]
def plex_wordr2 : List GOp := [⟨(some 7), none, .mov (.tmp 4)⟩, ⟨(some 8), none, .bin false .gtr (.tmp 7) (.cst (.int .i64 32))⟩]
def plex_wordr3 : List GOp := [⟨(some 2), none, .mov (.cst (.int .i64 0))⟩, ⟨(some 3), none, .mov (.cst (.int .i64 3))⟩]
def plex_wordr4 : List GOp := [⟨(some 9), none, .mov (.tmp 4)⟩, ⟨(some 2), none, .mov (.tmp 9)⟩, ⟨(some 3), none, .mov (.cst (.int .i64 0))⟩]
def plex_wordb : AC := (.seq (.ops plex_wordr0) (.seq (.ops plex_wordr1) (.seq (.seq (.ops plex_wordr2) (.cond (.tmp 8) (.seq (.ops plex_wordr3) (.keep [] [(2, false), (3, false)] [] [] [] .ret)) .skip)) (.seq (.ops plex_wordr4) (.keep [] [(2, false), (3, false)] [] [] [] .ret)))))
def plex_word : Fd := ⟨1, [.tmp 2, .tmp 3], [], plex_wordb⟩
theorem plex_word_ag : agreeF Tryd.prog Tryd.f48 plex_word = true := by kernel_rfl
theorem lex_word_ok {s1 : List UInt8} {r : Int × Int} (h : lex_word s1 = some r) : Contract Tryd.prog 48 [.pv (.str s1)] [] ⟨.tup [.pv (.int .i64 r.1), .pv (.int .i64 r.2)], [], []⟩ := by
 refine contract_fin hm Tryd.func48 plex_word_ag (by kernel_rfl) ?_
 unfold lex_word at h
 refine W.seqOps (RunR.all (by kernel_rfl)) ?_
 replace h := bindS h
 obtain ⟨x2, hx2, h⟩ := h
 refine W.seqOps (RunR.stat 1 (by kernel_rfl) (RunR.cons (tab_cons (on := true) (fun _ => lex_run_ok hx2) tab_nil) (Step.call0 (g := 66) (caps := []) (v := .pv (.int .i64 x2)) (by kernel_rfl) (by kernel_rfl) (by kernel_rfl) (tab_hit (by kernel_rfl)) (by kernel_rfl)) (RunR.all (by kernel_rfl)))) ?_
 refine W.assoc ?_
 refine W.seqOps (RunR.all (by kernel_rfl)) ?_
 refine W.seqCond (t := decide (x2 > 32)) (by kernel_rfl) h (fun hc h' => ?_) (fun hc h' => ?_)
 ·replace h := h'
  refine W.assoc ?_
  refine W.seqOps (RunR.all (by kernel_rfl)) ?_
  refine W.seqKeep rfl ?_
  cases h
  exact W.seqRet ((fin_ret (by kernel_rfl)))
 ·replace h := h'
  refine W.seqSkip ?_
  refine W.seqOps (RunR.all (by kernel_rfl)) ?_
  refine W.keep rfl ?_
  cases h
  exact W.ret ((fin_ret (by kernel_rfl)))
def plex_run_1_1r0 : List GOp := [⟨(some 3), none, .mov (.cst (.bool false))⟩]
def plex_run_1_1r1 : List GOp := [⟨(some 4), none, .mov (.tmp 0)⟩, ⟨(some 5), none, .bin false .gtr (.tmp 4) (.cst (.int .i32 127))⟩, ⟨(some 6), none, .mov (.tmp 5)⟩, ⟨(some 7), (some (6, false)), .load false 1 (.tmp 1)⟩, ⟨(some 8), (some (6, false)), .mov (.tmp 0)⟩, ⟨(some 9), (some (6, false)), .conv .u8 (.tmp 8)⟩, ⟨(some 10), (some (6, false)), .call 0 0 (.tmp 7) [(.tmp 9)] [] []⟩, ⟨(some 11), (some (6, false)), .un .not (.tmp 10)⟩, ⟨(some 12), none, .pick (.tmp 6) (.cst (.bool true)) (.tmp 11)⟩, ⟨(some 3), none, .mov (.tmp 12)⟩]
def plex_run_1_1b : AC := (.seq (.ops plex_run_1_1r0) (.seq (.ops plex_run_1_1r1) (.keep [] [(3, false)] [] [] [] .ret)))
def plex_run_1_1 : Fd := ⟨2, [.tmp 3], [], plex_run_1_1b⟩
theorem plex_run_1_1_ag : agreeF Tryd.prog Tryd.f80 plex_run_1_1 = true := by kernel_rfl
theorem lex_run_1_1_ok {r1 : Int} {r : Bool} (h : lex_run_1_1 r1 = some r) : Contract Tryd.prog 80 [.pv (.int .i32 r1), .ipv (.agg [.fn 49]) 0] [] ⟨.pv (.bool r), [], []⟩ := by
 refine contract_fin hm Tryd.func80 plex_run_1_1_ag (by kernel_rfl) ?_
 unfold lex_run_1_1 at h
 refine W.seqOps (RunR.all (by kernel_rfl)) ?_
 replace h := bindS h
 obtain ⟨c2, hc2, h⟩ := h
 replace h := bindS h
 obtain ⟨x3, hx3, h⟩ := h
 refine W.seqOps (RunR.stat 2 (by kernel_rfl) (RunR.dyn (Step.name (f := eBool) (e := decide (r1 > 127)) (c := c2) (by kernel_rfl) hc2) (RunR.puts 3 [(9, (bif !c2 then (.pv (.int .u8 (IntKind.wrap .u8 r1))) else (.tup []))), (8, (bif !c2 then (.pv (.int .i32 r1)) else (.tup []))), (7, (bif !c2 then (.pv (.fn 49)) else (.tup [])))] (by cases c2 <;> kernel_rfl) (RunR.cons (tab_cons (on := (!c2)) (fun hg => lex_isDigit_ok (gdO_at hg hx3)) tab_nil) (Step.gdG (!c2) (by kernel_rfl) (by
    cases c2
    ·exact .inr ⟨by kernel_rfl, by kernel_rfl, Step.call0 (g := 49) (caps := []) (v := .pv (.bool x3)) (by kernel_rfl) (by kernel_rfl) (by kernel_rfl) (tab_hit (by kernel_rfl)) (by kernel_rfl)⟩
    ·exact .inl ⟨by kernel_rfl, by kernel_rfl⟩)) (RunR.puts 2 [(12, .pv (.bool (c2 || (!x3)))), (11, (bif !c2 then (.pv (.bool (!x3))) else (.tup [])))] (by cases c2 <;> kernel_rfl) (RunR.all (by kernel_rfl))))))) ?_
 refine W.keep rfl ?_
 cases h
 exact W.ret ((fin_ret (by kernel_rfl)))
def plex_run_2r0 : List GOp := [⟨(some 3), none, .box (.tmp 1)⟩, ⟨(some 4), none, .mov (.cst (.int .i64 0))⟩]
def plex_run_2r1 : List GOp := [⟨(some 6), none, .mov (.tmp 0)⟩, ⟨(some 7), none, .mkfn 80 [(.tmp 3)]⟩, ⟨(some 8), none, .call 0 0 (.cst (.fn 79)) [(.tmp 6), (.tmp 7)] [] []⟩, ⟨(some 5), none, .mov (.tmp 8)⟩]
def plex_run_2r2 : List GOp := [⟨(some 9), none, .mov (.tmp 5)⟩, ⟨(some 10), none, .bin false .lss (.tmp 9) (.cst (.int .i64 0))⟩]
def plex_run_2r3 : List GOp := [⟨(some 11), none, .mov (.tmp 0)⟩, ⟨(some 12), none, .len true (.tmp 11)⟩, ⟨(some 4), none, .mov (.tmp 12)⟩]
def plex_run_2r4 : List GOp := [⟨(some 13), none, .mov (.tmp 5)⟩, ⟨(some 4), none, .mov (.tmp 13)⟩]
def plex_run_2b : AC := (.seq (.ops plex_run_2r0) (.seq (.keep [.loc 3 0] [(0, false), (3, false)] [] [] [] (.ops plex_run_2r1)) (.seq (.seq (.ops plex_run_2r2) (.cond (.tmp 10) (.seq (.ops plex_run_2r3) (.keep [] [(4, false)] [] [] [] .ret)) .skip)) (.seq (.ops plex_run_2r4) (.keep [] [(4, false)] [] [] [] .ret)))))
def plex_run_2 : Fd := ⟨2, [.tmp 4], [], plex_run_2b⟩
theorem plex_run_2_ag : agreeF Tryd.prog Tryd.f66 plex_run_2 = true := by kernel_rfl
theorem lex_run_2_ok {s1 : List UInt8} {r : Int} (h : lex_run_2 s1 = some r) : Contract Tryd.prog 66 [.pv (.str s1), .pv (.fn 49)] [] ⟨.pv (.int .i64 r), [], []⟩ := by
 refine contract_fin hm Tryd.func66 plex_run_2_ag (by kernel_rfl) ?_
 unfold lex_run_2 at h
 refine W.seqOps (RunR.all (by kernel_rfl)) ?_
 replace h := bindS h
 obtain ⟨x2, hx2, h⟩ := h
 refine W.seqKeep rfl ?_
 refine W.seqOps (RunR.stat 2 (by kernel_rfl) (RunR.cons (tab_cons (on := true) (fun _ => strings_IndexFunc_ok (fun x r h => lex_run_1_1_ok h) hx2 held_fn) tab_nil) (Step.call0 (g := 79) (caps := []) (v := .pv (.int .i64 x2)) (by kernel_rfl) (by kernel_rfl) (by kernel_rfl) (tab_hit (by kernel_rfl)) (by kernel_rfl)) (RunR.all (by kernel_rfl)))) ?_
 refine W.assoc ?_
 refine W.seqOps (RunR.all (by kernel_rfl)) ?_
 refine W.seqCond (t := decide (x2 < 0)) (by kernel_rfl) h (fun hc h' => ?_) (fun hc h' => ?_)
 ·replace h := h'
  refine W.assoc ?_
  refine W.seqOps (RunR.all (by kernel_rfl)) ?_
  refine W.seqKeep rfl ?_
  cases h
  exact W.seqRet ((fin_ret (by kernel_rfl)))
 ·replace h := h'
  refine W.seqSkip ?_
  refine W.seqOps (RunR.all (by kernel_rfl)) ?_
  refine W.keep rfl ?_
  cases h
  exact W.ret ((fin_ret (by kernel_rfl)))
def plex_numberr0 : List GOp := [⟨(some 2), none, .mov (.cst (.int .i64 0))⟩, ⟨(some 3), none, .mov (.cst (.int .i64 0))⟩]
def plex_numberr1 : List GOp := [⟨(some 7), none, .mov (.tmp 0)⟩, ⟨(some 8), none, .call 0 0 (.cst (.fn 66)) [(.tmp 7), (.cst (.fn 49))] [] []⟩, ⟨(some 4), none, .mov (.tmp 8)⟩]
def plex_numberr2 : List GOp := [⟨(some 5), none, .mov (.cst (.int .i64 0))⟩]
def plex_numberr3 : List GOp := [⟨(some 9), none, .mov (.tmp 0)⟩, ⟨(some 10), none, .mov (.tmp 4)⟩, ⟨(some 11), none, .slc true 0 (.tmp 9) (some (.tmp 10)) none⟩, ⟨(some 6), none, .mov (.tmp 11)⟩]
def plex_numberr4 : List GOp := [⟨(some 12), none, .mov (.tmp 6)⟩, ⟨(some 13), none, .len true (.tmp 12)⟩, ⟨(some 14), none, .bin false .gtr (.tmp 13) (.cst (.int .i64 1))⟩, ⟨(some 15), none, .mov (.tmp 14)⟩, ⟨(some 16), (some (15, true)), .mov (.tmp 6)⟩, ⟨(some 17), (some (15, true)), .sidx (.tmp 16) (.cst (.int .i64 0))⟩, ⟨(some 18), (some (15, true)), .bin false .eql (.tmp 17) (.cst (.int .u8 46))⟩, ⟨(some 19), none, .pick (.tmp 15) (.tmp 18) (.cst (.bool false))⟩]
def plex_numberr5 : List GOp := [⟨(some 20), none, .mov (.tmp 6)⟩, ⟨(some 21), none, .slc true 0 (.tmp 20) (some (.cst (.int .i64 1))) none⟩, ⟨(some 22), none, .call 0 0 (.cst (.fn 66)) [(.tmp 21), (.cst (.fn 49))] [] []⟩, ⟨(some 5), none, .mov (.tmp 22)⟩]
def plex_numberr6 : List GOp := [⟨(some 24), none, .mov (.tmp 4)⟩, ⟨(some 25), none, .bin false .gtr (.tmp 24) (.cst (.int .i64 15))⟩, ⟨(some 26), none, .mov (.tmp 25)⟩, ⟨(some 27), (some (26, false)), .mov (.tmp 5)⟩, ⟨(some 28), (some (26, false)), .bin false .gtr (.tmp 27) (.cst (.int .i64 9))⟩, ⟨(some 29), none, .pick (.tmp 26) (.cst (.bool true)) (.tmp 28)⟩, ⟨(some 30), none, .mov (.tmp 29)⟩, ⟨(some 31), (some (30, false)), .mov (.tmp 4)⟩, ⟨(some 32), (some (30, false)), .bin false .gtr (.tmp 31) (.cst (.int .i64 1))⟩, ⟨(some 33), (some (30, false)), .mov (.tmp 32)⟩, ⟨(some 34), (some (33, true)), .mov (.tmp 0)⟩, ⟨(some 35), (some (33, true)), .sidx (.tmp 34) (.cst (.int .i64 0))⟩, ⟨(some 36), (some (33, true)), .bin false .eql (.tmp 35) (.cst (.int .u8 48))⟩, ⟨(some 37), (some (30, false)), .pick (.tmp 33) (.tmp 36) (.cst (.bool false))⟩, ⟨(some 38), none, .pick (.tmp 30) (.cst (.bool true)) (.tmp 37)⟩, ⟨(some 23), none, .mov (.tmp 38)⟩]
def plex_numberr7 : List GOp := [⟨(some 2), none, .mov (.cst (.int .i64 0))⟩, ⟨(some 3), none, .mov (.cst (.int .i64 3))⟩]
def plex_numberr8 : List GOp := [⟨(some 40), none, .mov (.tmp 5)⟩, ⟨(some 41), none, .bin false .gtr (.tmp 40) (.cst (.int .i64 0))⟩, ⟨(some 39), none, .mov (.tmp 41)⟩]
def plex_numberr9 : List GOp := [⟨(some 42), none, .mov (.tmp 4)⟩, ⟨(some 43), none, .bin false .add (.tmp 42) (.cst (.int .i64 1))⟩, ⟨(some 44), none, .mov (.tmp 5)⟩, ⟨(some 45), none, .bin false .add (.tmp 43) (.tmp 44)⟩, ⟨(some 2), none, .mov (.tmp 45)⟩, ⟨(some 3), none, .mov (.cst (.int .i64 0))⟩]
def plex_numberr10 : List GOp := [⟨(some 46), none, .mov (.tmp 4)⟩, ⟨(some 2), none, .mov (.tmp 46)⟩, ⟨(some 3), none, .mov (.cst (.int .i64 0))⟩]
def plex_numberb : AC := (.seq (.ops plex_numberr0) (.seq (.ops plex_numberr1) (.seq (.ops plex_numberr2) (.seq (.seq (.ops plex_numberr3) (.seq (.ops plex_numberr4) (.cond (.tmp 19) (.ops plex_numberr5) .skip))) (.seq (.keep [] [(0, false), (4, false), (5, false)] [] [] [] (.pass 0 (.seq (.ops plex_numberr6) (.cond (.tmp 23) (.seq (.ops plex_numberr7) (.keep [] [(2, false), (3, false)] [] [] [] .ret)) (.seq (.ops plex_numberr8) (.cond (.tmp 39) (.seq (.ops plex_numberr9) (.keep [] [(2, false), (3, false)] [] [] [] .ret)) .skip)))))) (.seq (.ops plex_numberr10) (.keep [] [(2, false), (3, false)] [] [] [] .ret)))))))
def plex_number : Fd := ⟨1, [.tmp 2, .tmp 3], [], plex_numberb⟩
theorem plex_number_ag : agreeF Tryd.prog Tryd.f50 plex_number = true := by kernel_rfl
theorem lex_number_ok {s1 : List UInt8} {r : Int × Int} (h : lex_number s1 = some r) : Contract Tryd.prog 50 [.pv (.str s1)] [] ⟨.tup [.pv (.int .i64 r.1), .pv (.int .i64 r.2)], [], []⟩ := by
 refine contract_fin hm Tryd.func50 plex_number_ag (by kernel_rfl) ?_
 unfold lex_number at h
 refine W.seqOps (RunR.all (by kernel_rfl)) ?_
 replace h := bindS h
 obtain ⟨x2, hx2, h⟩ := h
 refine W.seqOps (RunR.stat 1 (by kernel_rfl) (RunR.cons (tab_cons (on := true) (fun _ => lex_run_2_ok hx2) tab_nil) (Step.call0 (g := 66) (caps := []) (v := .pv (.int .i64 x2)) (by kernel_rfl) (by kernel_rfl) (by kernel_rfl) (tab_hit (by kernel_rfl)) (by kernel_rfl)) (RunR.all (by kernel_rfl)))) ?_
 refine W.seqOps (RunR.all (by kernel_rfl)) ?_
 refine W.assoc ?_
 replace h := bindS h
 obtain ⟨x3, hx3, h⟩ := h
 refine W.seqOps (RunR.stat 2 (by kernel_rfl) (RunR.dyn (Step.slcS (s := s1) (m := x3) (a := x2) (b := (s1.length : Int)) (by kernel_rfl) (Bd.some (k := .i64) (by kernel_rfl)) (Bd.none rfl) hx3) (RunR.all (by kernel_rfl)))) ?_
 refine W.assoc ?_
 replace h := bindS h
 obtain ⟨c4, hc4, h⟩ := h
 replace h := bindS h
 obtain ⟨x5, hx5, h⟩ := h
 refine W.seqOps (RunR.stat 3 (by kernel_rfl) (RunR.dyn (Step.name (f := eBool) (e := decide ((x3.length : Int) > 1)) (c := c4) (by kernel_rfl) hc4) (RunR.puts 1 [(16, (bif c4 then (.pv (.str x3)) else (.tup [])))] (by cases c4 <;> kernel_rfl) (RunR.dyn (Step.gdG c4 (by kernel_rfl) (by
    cases c4
    ·exact .inl ⟨by kernel_rfl, by kernel_rfl⟩
    ·exact .inr ⟨by kernel_rfl, by kernel_rfl, Step.sidx (s := x3) (n := 0) (m := x5) (k := .i64) (by kernel_rfl) (by kernel_rfl) hx5⟩)) (RunR.puts 2 [(19, .pv (.bool (c4 && (x5 == 46)))), (18, (bif c4 then (.pv (.bool (x5 == 46))) else (.tup [])))] (by cases c4 <;> kernel_rfl) ((.nil _))))))) ?_
 replace h := bindS h
 obtain ⟨j6, hj6, h⟩ := h
 refine W.join (j := j6) (fun p σ => σ.tidy [] [(0, false), (4, false), (5, false)] [] [] [] = ⟨[(0, .pv (.str s1)), (4, .pv (.int .i64 x2)), (5, .pv (.int .i64 p))], []⟩) ?_ (fun σj6 hsj6 => ?_)
 ·replace h := hj6
  refine W.condI (t := (c4 && (x5 == 46))) (by kernel_rfl) h (fun hc h' => ?_) (fun hc h' => ?_)
  ·replace h := h'
   replace h := bindS h
   obtain ⟨x7, hx7, h⟩ := h
   replace h := bindS h
   obtain ⟨x8, hx8, h⟩ := h
   refine W.ops (RunR.stat 1 (by kernel_rfl) (RunR.dyn (Step.slcS (s := x3) (m := x7) (a := 1) (b := (x3.length : Int)) (by kernel_rfl) (Bd.some (k := .i64) (by kernel_rfl)) (Bd.none rfl) hx7) (RunR.cons (tab_cons (on := true) (fun _ => lex_run_2_ok hx8) tab_nil) (Step.call0 (g := 66) (caps := []) (v := .pv (.int .i64 x8)) (by kernel_rfl) (by kernel_rfl) (by kernel_rfl) (tab_hit (by kernel_rfl)) (by kernel_rfl)) (RunR.all (by kernel_rfl))))) ?_
   cases h
   exact (normw (by (show _ = _); kernel_rfl))
  ·replace h := h'
   cases h
   exact W.skip ((normw (by (show _ = _); kernel_rfl)))
 ·refine W.seqKeep hsj6 ?_
  refine W.seqPass ?_
  refine W.assoc ?_
  replace h := bindS h
  obtain ⟨c10, hc10, h⟩ := h
  replace h := bindS h
  obtain ⟨c11, hc11, h⟩ := h
  replace h := bindS h
  obtain ⟨c12, hc12, h⟩ := h
  replace h := bindS h
  obtain ⟨x13, hx13, h⟩ := h
  refine W.seqOps (RunR.stat 2 (by kernel_rfl) (RunR.dyn (Step.name (f := eBool) (e := decide (x2 > 15)) (c := c10) (by kernel_rfl) hc10) (RunR.puts 3 [(29, .pv (.bool (c10 || (decide (j6 > 9))))), (28, (bif !c10 then (.pv (.bool (decide (j6 > 9)))) else (.tup []))), (27, (bif !c10 then (.pv (.int .i64 j6)) else (.tup [])))] (by cases c10 <;> kernel_rfl) (RunR.dyn (Step.name (f := eBool) (e := (c10 || (decide (j6 > 9)))) (c := c11) (by kernel_rfl) hc11) (RunR.puts 2 [(32, (bif !c11 then (.pv (.bool (decide (x2 > 1)))) else (.tup []))), (31, (bif !c11 then (.pv (.int .i64 x2)) else (.tup [])))] (by cases c11 <;> kernel_rfl) (RunR.dyn (Step.gdG (!c11) (by kernel_rfl) (by
     cases c11
     ·exact .inr ⟨by kernel_rfl, by kernel_rfl, Step.name (f := eBool) (e := decide (x2 > 1)) (c := c12) (by kernel_rfl) hc12⟩
     ·exact .inl ⟨by kernel_rfl, by kernel_rfl⟩)) (RunR.puts 1 [(34, (bif ((!c11) && c12) then (.pv (.str s1)) else (.tup [])))] (by cases c11 <;> cases c12 <;> kernel_rfl) (RunR.dyn (Step.gdG ((!c11) && c12) (by kernel_rfl) (by
     cases c11
     ·cases c12
      ·exact .inl ⟨by kernel_rfl, by kernel_rfl⟩
      ·exact .inr ⟨by kernel_rfl, by kernel_rfl, Step.sidx (s := s1) (n := 0) (m := x13) (k := .i64) (by kernel_rfl) (by kernel_rfl) hx13⟩
     ·cases c12
      ·exact .inl ⟨by kernel_rfl, by kernel_rfl⟩
      ·exact .inl ⟨by kernel_rfl, by kernel_rfl⟩)) (RunR.puts 3 [(38, .pv (.bool (c11 || (c12 && (x13 == 48))))), (37, (bif !c11 then (.pv (.bool (c12 && (x13 == 48)))) else (.tup []))), (36, (bif ((!c11) && c12) then (.pv (.bool (x13 == 48))) else (.tup [])))] (by cases c11 <;> cases c12 <;> kernel_rfl) (RunR.all (by kernel_rfl))))))))))) ?_
  refine W.seqCond (t := (c11 || (c12 && (x13 == 48)))) (by kernel_rfl) h (fun hc h' => ?_) (fun hc h' => ?_)
  ·replace h := h'
   refine W.assoc ?_
   refine W.seqOps (RunR.all (by kernel_rfl)) ?_
   refine W.seqKeep rfl ?_
   cases h
   exact W.seqRet ((fin_ret (by kernel_rfl)))
  ·replace h := h'
   refine W.assoc ?_
   refine W.seqOps (RunR.all (by kernel_rfl)) ?_
   refine W.seqCond (t := decide (j6 > 0)) (by kernel_rfl) h (fun hc h' => ?_) (fun hc h' => ?_)
   ·replace h := h'
    refine W.assoc ?_
    refine W.seqOps (RunR.all (by kernel_rfl)) ?_
    refine W.seqKeep rfl ?_
    cases h
    exact W.seqRet ((fin_ret (by kernel_rfl)))
   ·replace h := h'
    refine W.seqSkip ?_
    refine W.seqOps (RunR.all (by kernel_rfl)) ?_
    refine W.keep rfl ?_
    cases h
    exact W.ret ((fin_ret (by kernel_rfl)))
def plex_quoted_1r0 : List GOp := [⟨(some 2), none, .mov (.cst (.bool false))⟩]
def plex_quoted_1r1 : List GOp := [⟨(some 3), none, .mov (.tmp 0)⟩, ⟨(some 4), none, .bin false .geq (.tmp 3) (.cst (.int .u8 32))⟩, ⟨(some 5), none, .mov (.tmp 4)⟩, ⟨(some 6), (some (5, true)), .mov (.tmp 0)⟩, ⟨(some 7), (some (5, true)), .bin false .leq (.tmp 6) (.cst (.int .u8 126))⟩, ⟨(some 8), none, .pick (.tmp 5) (.tmp 7) (.cst (.bool false))⟩, ⟨(some 2), none, .mov (.tmp 8)⟩]
def plex_quoted_1b : AC := (.seq (.ops plex_quoted_1r0) (.seq (.ops plex_quoted_1r1) (.keep [] [(2, false)] [] [] [] .ret)))
def plex_quoted_1 : Fd := ⟨1, [.tmp 2], [], plex_quoted_1b⟩
theorem plex_quoted_1_ag : agreeF Tryd.prog Tryd.f69 plex_quoted_1 = true := by kernel_rfl
theorem lex_quoted_1_ok {b1 : Int} {r : Bool} (h : lex_quoted_1 b1 = some r) : Contract Tryd.prog 69 [.pv (.int .u8 b1)] [] ⟨.pv (.bool r), [], []⟩ := by
 refine contract_fin hm Tryd.func69 plex_quoted_1_ag (by kernel_rfl) ?_
 unfold lex_quoted_1 at h
 refine W.seqOps (RunR.all (by kernel_rfl)) ?_
 replace h := bindS h
 obtain ⟨c2, hc2, h⟩ := h
 refine W.seqOps (RunR.stat 2 (by kernel_rfl) (RunR.dyn (Step.name (f := eBool) (e := decide (b1 ≥ 32)) (c := c2) (by kernel_rfl) hc2) (RunR.puts 3 [(8, .pv (.bool (c2 && (decide (b1 ≤ 126))))), (7, (bif c2 then (.pv (.bool (decide (b1 ≤ 126)))) else (.tup []))), (6, (bif c2 then (.pv (.int .u8 b1)) else (.tup [])))] (by cases c2 <;> kernel_rfl) (RunR.all (by kernel_rfl))))) ?_
 refine W.keep rfl ?_
 cases h
 exact W.ret ((fin_ret (by kernel_rfl)))
def plex_run_1_2r0 : List GOp := [⟨(some 3), none, .mov (.cst (.bool false))⟩]
def plex_run_1_2r1 : List GOp := [⟨(some 4), none, .mov (.tmp 0)⟩, ⟨(some 5), none, .bin false .gtr (.tmp 4) (.cst (.int .i32 127))⟩, ⟨(some 6), none, .mov (.tmp 5)⟩, ⟨(some 7), (some (6, false)), .load false 1 (.tmp 1)⟩, ⟨(some 8), (some (6, false)), .mov (.tmp 0)⟩, ⟨(some 9), (some (6, false)), .conv .u8 (.tmp 8)⟩, ⟨(some 10), (some (6, false)), .call 0 0 (.tmp 7) [(.tmp 9)] [] []⟩, ⟨(some 11), (some (6, false)), .un .not (.tmp 10)⟩, ⟨(some 12), none, .pick (.tmp 6) (.cst (.bool true)) (.tmp 11)⟩, ⟨(some 3), none, .mov (.tmp 12)⟩]
def plex_run_1_2b : AC := (.seq (.ops plex_run_1_2r0) (.seq (.ops plex_run_1_2r1) (.keep [] [(3, false)] [] [] [] .ret)))
def plex_run_1_2 : Fd := ⟨2, [.tmp 3], [], plex_run_1_2b⟩
theorem plex_run_1_2_ag : agreeF Tryd.prog Tryd.f80 plex_run_1_2 = true := by kernel_rfl
theorem lex_run_1_2_ok {r1 : Int} {r : Bool} (h : lex_run_1_2 r1 = some r) : Contract Tryd.prog 80 [.pv (.int .i32 r1), .ipv (.agg [.fn 69]) 0] [] ⟨.pv (.bool r), [], []⟩ := by
 refine contract_fin hm Tryd.func80 plex_run_1_2_ag (by kernel_rfl) ?_
 unfold lex_run_1_2 at h
 refine W.seqOps (RunR.all (by kernel_rfl)) ?_
 replace h := bindS h
 obtain ⟨c2, hc2, h⟩ := h
 replace h := bindS h
 obtain ⟨x3, hx3, h⟩ := h
 refine W.seqOps (RunR.stat 2 (by kernel_rfl) (RunR.dyn (Step.name (f := eBool) (e := decide (r1 > 127)) (c := c2) (by kernel_rfl) hc2) (RunR.puts 3 [(9, (bif !c2 then (.pv (.int .u8 (IntKind.wrap .u8 r1))) else (.tup []))), (8, (bif !c2 then (.pv (.int .i32 r1)) else (.tup []))), (7, (bif !c2 then (.pv (.fn 69)) else (.tup [])))] (by cases c2 <;> kernel_rfl) (RunR.cons (tab_cons (on := (!c2)) (fun hg => lex_quoted_1_ok (gdO_at hg hx3)) tab_nil) (Step.gdG (!c2) (by kernel_rfl) (by
    cases c2
    ·exact .inr ⟨by kernel_rfl, by kernel_rfl, Step.call0 (g := 69) (caps := []) (v := .pv (.bool x3)) (by kernel_rfl) (by kernel_rfl) (by kernel_rfl) (tab_hit (by kernel_rfl)) (by kernel_rfl)⟩
    ·exact .inl ⟨by kernel_rfl, by kernel_rfl⟩)) (RunR.puts 2 [(12, .pv (.bool (c2 || (!x3)))), (11, (bif !c2 then (.pv (.bool (!x3))) else (.tup [])))] (by cases c2 <;> kernel_rfl) (RunR.all (by kernel_rfl))))))) ?_
 refine W.keep rfl ?_
 cases h
 exact W.ret ((fin_ret (by kernel_rfl)))
def plex_run_3r0 : List GOp := [⟨(some 3), none, .box (.tmp 1)⟩, ⟨(some 4), none, .mov (.cst (.int .i64 0))⟩]
def plex_run_3r1 : List GOp := [⟨(some 6), none, .mov (.tmp 0)⟩, ⟨(some 7), none, .mkfn 80 [(.tmp 3)]⟩, ⟨(some 8), none, .call 0 0 (.cst (.fn 79)) [(.tmp 6), (.tmp 7)] [] []⟩, ⟨(some 5), none, .mov (.tmp 8)⟩]
def plex_run_3r2 : List GOp := [⟨(some 9), none, .mov (.tmp 5)⟩, ⟨(some 10), none, .bin false .lss (.tmp 9) (.cst (.int .i64 0))⟩]
def plex_run_3r3 : List GOp := [⟨(some 11), none, .mov (.tmp 0)⟩, ⟨(some 12), none, .len true (.tmp 11)⟩, ⟨(some 4), none, .mov (.tmp 12)⟩]
def plex_run_3r4 : List GOp := [⟨(some 13), none, .mov (.tmp 5)⟩, ⟨(some 4), none, .mov (.tmp 13)⟩]
def plex_run_3b : AC := (.seq (.ops plex_run_3r0) (.seq (.keep [.loc 3 0] [(0, false), (3, false)] [] [] [] (.ops plex_run_3r1)) (.seq (.seq (.ops plex_run_3r2) (.cond (.tmp 10) (.seq (.ops plex_run_3r3) (.keep [] [(4, false)] [] [] [] .ret)) .skip)) (.seq (.ops plex_run_3r4) (.keep [] [(4, false)] [] [] [] .ret)))))
def plex_run_3 : Fd := ⟨2, [.tmp 4], [], plex_run_3b⟩
theorem plex_run_3_ag : agreeF Tryd.prog Tryd.f66 plex_run_3 = true := by kernel_rfl
theorem lex_run_3_ok {s1 : List UInt8} {r : Int} (h : lex_run_3 s1 = some r) : Contract Tryd.prog 66 [.pv (.str s1), .pv (.fn 69)] [] ⟨.pv (.int .i64 r), [], []⟩ := by
 refine contract_fin hm Tryd.func66 plex_run_3_ag (by kernel_rfl) ?_
 unfold lex_run_3 at h
 refine W.seqOps (RunR.all (by kernel_rfl)) ?_
 replace h := bindS h
 obtain ⟨x2, hx2, h⟩ := h
 refine W.seqKeep rfl ?_
 refine W.seqOps (RunR.stat 2 (by kernel_rfl) (RunR.cons (tab_cons (on := true) (fun _ => strings_IndexFunc_ok (fun x r h => lex_run_1_2_ok h) hx2 held_fn) tab_nil) (Step.call0 (g := 79) (caps := []) (v := .pv (.int .i64 x2)) (by kernel_rfl) (by kernel_rfl) (by kernel_rfl) (tab_hit (by kernel_rfl)) (by kernel_rfl)) (RunR.all (by kernel_rfl)))) ?_
 refine W.assoc ?_
 refine W.seqOps (RunR.all (by kernel_rfl)) ?_
 refine W.seqCond (t := decide (x2 < 0)) (by kernel_rfl) h (fun hc h' => ?_) (fun hc h' => ?_)
 ·replace h := h'
  refine W.assoc ?_
  refine W.seqOps (RunR.all (by kernel_rfl)) ?_
  refine W.seqKeep rfl ?_
  cases h
  exact W.seqRet ((fin_ret (by kernel_rfl)))
 ·replace h := h'
  refine W.seqSkip ?_
  refine W.seqOps (RunR.all (by kernel_rfl)) ?_
  refine W.keep rfl ?_
  cases h
  exact W.ret ((fin_ret (by kernel_rfl)))
def plex_quotedr0 : List GOp := [⟨(some 2), none, .mov (.cst (.int .i64 0))⟩, ⟨(some 3), none, .mov (.cst (.int .i64 0))⟩]
def plex_quotedr1 : List GOp := [⟨(some 5), none, .mov (.tmp 0)⟩, ⟨(some 6), none, .slc true 0 (.tmp 5) (some (.cst (.int .i64 1))) none⟩, ⟨(some 7), none, .call 0 0 (.cst (.fn 68)) [(.tmp 6), (.cst (.int .u8 34))] [] []⟩, ⟨(some 4), none, .mov (.tmp 7)⟩]
def plex_quotedr2 : List GOp := [⟨(some 8), none, .mov (.tmp 4)⟩, ⟨(some 9), none, .bin false .lss (.tmp 8) (.cst (.int .i64 0))⟩]
def plex_quotedr3 : List GOp := [⟨(some 2), none, .mov (.cst (.int .i64 0))⟩, ⟨(some 3), none, .mov (.cst (.int .i64 14))⟩]
def plex_quotedr4 : List GOp := [⟨(some 10), none, .mov (.tmp 4)⟩, ⟨(some 11), none, .bin false .gtr (.tmp 10) (.cst (.int .i64 32))⟩, ⟨(some 12), none, .mov (.tmp 11)⟩, ⟨(some 13), (some (12, false)), .mov (.tmp 0)⟩, ⟨(some 14), (some (12, false)), .mov (.tmp 4)⟩, ⟨(some 15), (some (12, false)), .bin false .add (.cst (.int .i64 1)) (.tmp 14)⟩, ⟨(some 16), (some (12, false)), .slc true 0 (.tmp 13) (some (.cst (.int .i64 1))) (some (.tmp 15))⟩, ⟨(some 17), (some (12, false)), .call 0 0 (.cst (.fn 66)) [(.tmp 16), (.cst (.fn 69))] [] []⟩, ⟨(some 18), (some (12, false)), .mov (.tmp 4)⟩, ⟨(some 19), (some (12, false)), .bin false .lss (.tmp 17) (.tmp 18)⟩, ⟨(some 20), none, .pick (.tmp 12) (.cst (.bool true)) (.tmp 19)⟩]
def plex_quotedr5 : List GOp := [⟨(some 2), none, .mov (.cst (.int .i64 0))⟩, ⟨(some 3), none, .mov (.cst (.int .i64 3))⟩]
def plex_quotedr6 : List GOp := [⟨(some 21), none, .mov (.tmp 4)⟩, ⟨(some 22), none, .bin false .add (.tmp 21) (.cst (.int .i64 2))⟩, ⟨(some 2), none, .mov (.tmp 22)⟩, ⟨(some 3), none, .mov (.cst (.int .i64 0))⟩]
def plex_quotedb : AC := (.seq (.ops plex_quotedr0) (.seq (.ops plex_quotedr1) (.seq (.seq (.ops plex_quotedr2) (.cond (.tmp 9) (.seq (.ops plex_quotedr3) (.keep [] [(2, false), (3, false)] [] [] [] .ret)) .skip)) (.seq (.seq (.ops plex_quotedr4) (.cond (.tmp 20) (.seq (.ops plex_quotedr5) (.keep [] [(2, false), (3, false)] [] [] [] .ret)) .skip)) (.seq (.ops plex_quotedr6) (.keep [] [(2, false), (3, false)] [] [] [] .ret))))))
def plex_quoted : Fd := ⟨1, [.tmp 2, .tmp 3], [], plex_quotedb⟩
theorem plex_quoted_ag : agreeF Tryd.prog Tryd.f52 plex_quoted = true := by kernel_rfl
theorem lex_quoted_ok {s1 : List UInt8} {r : Int × Int} (h : lex_quoted s1 = some r) : Contract Tryd.prog 52 [.pv (.str s1)] [] ⟨.tup [.pv (.int .i64 r.1), .pv (.int .i64 r.2)], [], []⟩ := by
 refine contract_fin hm Tryd.func52 plex_quoted_ag (by kernel_rfl) ?_
 unfold lex_quoted at h
 refine W.seqOps (RunR.all (by kernel_rfl)) ?_
 replace h := bindS h
 obtain ⟨x2, hx2, h⟩ := h
 replace h := bindS h
 obtain ⟨x3, hx3, h⟩ := h
 refine W.seqOps (RunR.stat 1 (by kernel_rfl) (RunR.dyn (Step.slcS (s := s1) (m := x2) (a := 1) (b := (s1.length : Int)) (by kernel_rfl) (Bd.some (k := .i64) (by kernel_rfl)) (Bd.none rfl) hx2) (RunR.cons (tab_cons (on := true) (fun _ => strings_IndexByte_ok hx3) tab_nil) (Step.call0 (g := 68) (caps := []) (v := .pv (.int .i64 x3)) (by kernel_rfl) (by kernel_rfl) (by kernel_rfl) (tab_hit (by kernel_rfl)) (by kernel_rfl)) (RunR.all (by kernel_rfl))))) ?_
 refine W.assoc ?_
 refine W.seqOps (RunR.all (by kernel_rfl)) ?_
 refine W.seqCond (t := decide (x3 < 0)) (by kernel_rfl) h (fun hc h' => ?_) (fun hc h' => ?_)
 ·replace h := h'
  refine W.assoc ?_
  refine W.seqOps (RunR.all (by kernel_rfl)) ?_
  refine W.seqKeep rfl ?_
  cases h
  exact W.seqRet ((fin_ret (by kernel_rfl)))
 ·replace h := h'
  refine W.seqSkip ?_
  refine W.assoc ?_
  replace h := bindS h
  obtain ⟨c4, hc4, h⟩ := h
  replace h := bindS h
  obtain ⟨x5, hx5, h⟩ := h
  replace h := bindS h
  obtain ⟨x6, hx6, h⟩ := h
  refine W.seqOps (RunR.stat 2 (by kernel_rfl) (RunR.dyn (Step.name (f := eBool) (e := decide (x3 > 32)) (c := c4) (by kernel_rfl) hc4) (RunR.puts 3 [(15, (bif !c4 then (.pv (.int .i64 (IntKind.wrap .i64 (1 + x3)))) else (.tup []))), (14, (bif !c4 then (.pv (.int .i64 x3)) else (.tup []))), (13, (bif !c4 then (.pv (.str s1)) else (.tup [])))] (by cases c4 <;> kernel_rfl) (RunR.dyn (Step.gdG (!c4) (by kernel_rfl) (by
     cases c4
     ·exact .inr ⟨by kernel_rfl, by kernel_rfl, Step.slcS (s := s1) (m := x5) (a := 1) (b := IntKind.wrap .i64 (1 + x3)) (by kernel_rfl) (Bd.some (k := .i64) (by kernel_rfl)) (Bd.some (k := .i64) (by kernel_rfl)) hx5⟩
     ·exact .inl ⟨by kernel_rfl, by kernel_rfl⟩)) (RunR.cons (tab_cons (on := (!c4)) (fun hg => lex_run_3_ok (gdO_at hg hx6)) tab_nil) (Step.gdG (!c4) (by kernel_rfl) (by
     cases c4
     ·exact .inr ⟨by kernel_rfl, by kernel_rfl, Step.call0 (g := 66) (caps := []) (v := .pv (.int .i64 x6)) (by kernel_rfl) (by kernel_rfl) (by kernel_rfl) (tab_hit (by kernel_rfl)) (by kernel_rfl)⟩
     ·exact .inl ⟨by kernel_rfl, by kernel_rfl⟩)) (RunR.puts 3 [(20, .pv (.bool (c4 || (decide (x6 < x3))))), (19, (bif !c4 then (.pv (.bool (decide (x6 < x3)))) else (.tup []))), (18, (bif !c4 then (.pv (.int .i64 x3)) else (.tup [])))] (by cases c4 <;> kernel_rfl) ((.nil _)))))))) ?_
  refine W.seqCond (t := (c4 || (decide (x6 < x3)))) (by kernel_rfl) h (fun hc h' => ?_) (fun hc h' => ?_)
  ·replace h := h'
   refine W.assoc ?_
   refine W.seqOps (RunR.all (by kernel_rfl)) ?_
   refine W.seqKeep rfl ?_
   cases h
   exact W.seqRet ((fin_ret (by kernel_rfl)))
  ·replace h := h'
   refine W.seqSkip ?_
   refine W.seqOps (RunR.all (by kernel_rfl)) ?_
   refine W.keep rfl ?_
   cases h
   exact W.ret ((fin_ret (by kernel_rfl)))
def plex_signr0 : List GOp := [⟨(some 2), none, .mov (.cst (.int .i64 0))⟩, ⟨(some 3), none, .mov (.cst (.int .i64 0))⟩]
def plex_signr1 : List GOp := [⟨(some 5), none, .mov (.tmp 0)⟩, ⟨(some 6), none, .len true (.tmp 5)⟩, ⟨(some 7), none, .bin false .gtr (.tmp 6) (.cst (.int .i64 1))⟩, ⟨(some 8), none, .mov (.tmp 7)⟩, ⟨(some 9), (some (8, true)), .mov (.tmp 0)⟩, ⟨(some 10), (some (8, true)), .slc true 0 (.tmp 9) none (some (.cst (.int .i64 2)))⟩, ⟨(some 11), (some (8, true)), .call 0 0 (.cst (.fn 70)) [(.cst (.str [60, 61, 32, 62, 61, 32, 46, 46])), (.tmp 10)] [] []⟩, ⟨(some 12), none, .pick (.tmp 8) (.tmp 11) (.cst (.bool false))⟩, ⟨(some 13), none, .mov (.tmp 12)⟩, ⟨(some 14), (some (13, true)), .mov (.tmp 0)⟩, ⟨(some 15), (some (13, true)), .slc true 0 (.tmp 14) none (some (.cst (.int .i64 2)))⟩, ⟨(some 16), (some (13, true)), .call 0 0 (.cst (.fn 70)) [(.tmp 15), (.cst (.str [32]))] [] []⟩, ⟨(some 17), (some (13, true)), .un .not (.tmp 16)⟩, ⟨(some 18), none, .pick (.tmp 13) (.tmp 17) (.cst (.bool false))⟩, ⟨(some 4), none, .mov (.tmp 18)⟩]
def plex_signr2 : List GOp := [⟨(some 2), none, .mov (.cst (.int .i64 2))⟩, ⟨(some 3), none, .mov (.cst (.int .i64 0))⟩]
def plex_signr3 : List GOp := [⟨(some 20), none, .mov (.tmp 0)⟩, ⟨(some 21), none, .sidx (.tmp 20) (.cst (.int .i64 0))⟩, ⟨(some 22), none, .call 0 0 (.cst (.fn 68)) [(.cst (.str [123, 125, 40, 41, 91, 93, 59, 58, 44, 37, 61, 60, 62, 43, 45, 42, 47])), (.tmp 21)] [] []⟩, ⟨(some 23), none, .bin false .geq (.tmp 22) (.cst (.int .i64 0))⟩, ⟨(some 19), none, .mov (.tmp 23)⟩]
def plex_signr4 : List GOp := [⟨(some 2), none, .mov (.cst (.int .i64 1))⟩, ⟨(some 3), none, .mov (.cst (.int .i64 0))⟩]
def plex_signr5 : List GOp := [⟨(some 2), none, .mov (.cst (.int .i64 0))⟩, ⟨(some 3), none, .mov (.cst (.int .i64 14))⟩]
def plex_signb : AC := (.seq (.ops plex_signr0) (.seq (.pass 0 (.seq (.ops plex_signr1) (.cond (.tmp 4) (.seq (.ops plex_signr2) (.keep [] [(2, false), (3, false)] [] [] [] .ret)) (.seq (.ops plex_signr3) (.cond (.tmp 19) (.seq (.ops plex_signr4) (.keep [] [(2, false), (3, false)] [] [] [] .ret)) .skip))))) (.seq (.ops plex_signr5) (.keep [] [(2, false), (3, false)] [] [] [] .ret))))
def plex_sign : Fd := ⟨1, [.tmp 2, .tmp 3], [], plex_signb⟩
theorem plex_sign_ag : agreeF Tryd.prog Tryd.f54 plex_sign = true := by kernel_rfl
theorem lex_sign_ok {s1 : List UInt8} {r : Int × Int} (h : lex_sign s1 = some r) : Contract Tryd.prog 54 [.pv (.str s1)] [] ⟨.tup [.pv (.int .i64 r.1), .pv (.int .i64 r.2)], [], []⟩ := by
 refine contract_fin hm Tryd.func54 plex_sign_ag (by kernel_rfl) ?_
 unfold lex_sign at h
 refine W.seqOps (RunR.all (by kernel_rfl)) ?_
 refine W.seqPass ?_
 refine W.assoc ?_
 replace h := bindS h
 obtain ⟨c2, hc2, h⟩ := h
 replace h := bindS h
 obtain ⟨x3, hx3, h⟩ := h
 replace h := bindS h
 obtain ⟨x4, hx4, h⟩ := h
 replace h := bindS h
 obtain ⟨c5, hc5, h⟩ := h
 replace h := bindS h
 obtain ⟨x6, hx6, h⟩ := h
 replace h := bindS h
 obtain ⟨x7, hx7, h⟩ := h
 refine W.seqOps (RunR.stat 3 (by kernel_rfl) (RunR.dyn (Step.name (f := eBool) (e := decide ((s1.length : Int) > 1)) (c := c2) (by kernel_rfl) hc2) (RunR.puts 1 [(9, (bif c2 then (.pv (.str s1)) else (.tup [])))] (by cases c2 <;> kernel_rfl) (RunR.dyn (Step.gdG c2 (by kernel_rfl) (by
    cases c2
    ·exact .inl ⟨by kernel_rfl, by kernel_rfl⟩
    ·exact .inr ⟨by kernel_rfl, by kernel_rfl, Step.slcS (s := s1) (m := x3) (a := 0) (b := 2) (by kernel_rfl) (Bd.none rfl) (Bd.some (k := .i64) (by kernel_rfl)) hx3⟩)) (RunR.cons (tab_cons (on := c2) (fun hg => strings_Contains_ok (gdO_at hg hx4)) tab_nil) (Step.gdG c2 (by kernel_rfl) (by
    cases c2
    ·exact .inl ⟨by kernel_rfl, by kernel_rfl⟩
    ·exact .inr ⟨by kernel_rfl, by kernel_rfl, Step.call0 (g := 70) (caps := []) (v := .pv (.bool x4)) (by kernel_rfl) (by kernel_rfl) (by kernel_rfl) (tab_hit (by kernel_rfl)) (by kernel_rfl)⟩)) (RunR.puts 1 [(12, .pv (.bool (c2 && x4)))] (by cases c2 <;> kernel_rfl) (RunR.dyn (Step.name (f := eBool) (e := (c2 && x4)) (c := c5) (by kernel_rfl) hc5) (RunR.puts 1 [(14, (bif c5 then (.pv (.str s1)) else (.tup [])))] (by cases c5 <;> kernel_rfl) (RunR.dyn (Step.gdG c5 (by kernel_rfl) (by
    cases c5
    ·exact .inl ⟨by kernel_rfl, by kernel_rfl⟩
    ·exact .inr ⟨by kernel_rfl, by kernel_rfl, Step.slcS (s := s1) (m := x6) (a := 0) (b := 2) (by kernel_rfl) (Bd.none rfl) (Bd.some (k := .i64) (by kernel_rfl)) hx6⟩)) (RunR.cons (tab_cons (on := c5) (fun hg => strings_Contains_ok (gdO_at hg hx7)) tab_nil) (Step.gdG c5 (by kernel_rfl) (by
    cases c5
    ·exact .inl ⟨by kernel_rfl, by kernel_rfl⟩
    ·exact .inr ⟨by kernel_rfl, by kernel_rfl, Step.call0 (g := 70) (caps := []) (v := .pv (.bool x7)) (by kernel_rfl) (by kernel_rfl) (by kernel_rfl) (tab_hit (by kernel_rfl)) (by kernel_rfl)⟩)) (RunR.puts 2 [(18, .pv (.bool (c5 && (!x7)))), (17, (bif c5 then (.pv (.bool (!x7))) else (.tup [])))] (by cases c5 <;> kernel_rfl) (RunR.all (by kernel_rfl))))))))))))) ?_
 refine W.seqCond (t := (c5 && (!x7))) (by kernel_rfl) h (fun hc h' => ?_) (fun hc h' => ?_)
 ·replace h := h'
  refine W.assoc ?_
  refine W.seqOps (RunR.all (by kernel_rfl)) ?_
  refine W.seqKeep rfl ?_
  cases h
  exact W.seqRet ((fin_ret (by kernel_rfl)))
 ·replace h := h'
  refine W.assoc ?_
  replace h := bindS h
  obtain ⟨x8, hx8, h⟩ := h
  replace h := bindS h
  obtain ⟨x9, hx9, h⟩ := h
  refine W.seqOps (RunR.stat 1 (by kernel_rfl) (RunR.dyn (Step.sidx (s := s1) (n := 0) (m := x8) (k := .i64) (by kernel_rfl) (by kernel_rfl) hx8) (RunR.cons (tab_cons (on := true) (fun _ => strings_IndexByte_ok hx9) tab_nil) (Step.call0 (g := 68) (caps := []) (v := .pv (.int .i64 x9)) (by kernel_rfl) (by kernel_rfl) (by kernel_rfl) (tab_hit (by kernel_rfl)) (by kernel_rfl)) (RunR.all (by kernel_rfl))))) ?_
  refine W.seqCond (t := decide (x9 ≥ 0)) (by kernel_rfl) h (fun hc h' => ?_) (fun hc h' => ?_)
  ·replace h := h'
   refine W.assoc ?_
   refine W.seqOps (RunR.all (by kernel_rfl)) ?_
   refine W.seqKeep rfl ?_
   cases h
   exact W.seqRet ((fin_ret (by kernel_rfl)))
  ·replace h := h'
   refine W.seqSkip ?_
   refine W.seqOps (RunR.all (by kernel_rfl)) ?_
   refine W.keep rfl ?_
   cases h
   exact W.ret ((fin_ret (by kernel_rfl)))
theorem lex_call58_ok {f : Nat} {a0 : List UInt8} {r : Int × Int} (h : lex_call58 f a0 = some r) : Contract Tryd.prog f [.pv (.str a0)] [] ⟨.tup [.pv (.int .i64 r.1), .pv (.int .i64 r.2)], [], []⟩ := by
 unfold lex_call58 at h
 split at h
 ·rename_i e; subst e; exact lex_word_ok h
 split at h
 ·rename_i e; subst e; exact lex_number_ok h
 split at h
 ·rename_i e; subst e; exact lex_quoted_ok h
 split at h
 ·rename_i e; subst e; exact lex_sign_ok h
 cases h
def plex_nextr0 : List GOp := [⟨(some 2), none, .mov (.cst (.int .i64 0))⟩, ⟨(some 3), none, .mov (.cst (.int .i64 0))⟩, ⟨(some 4), none, .mov (.cst (.int .i64 0))⟩]
def plex_nextr1 : List GOp := [⟨(some 9), none, .call 0 0 (.cst (.fn 29)) [] [] []⟩, ⟨(some 10), none, .mov (.cst (.int .i64 0))⟩]
def plex_nextr2 : List GOp := [⟨(some 11), none, .bin false .lss (.tmp 10) (.cst (.int .i64 4))⟩]
def plex_nextr3 : List GOp := [⟨(some 12), none, .mov (.tmp 10)⟩, ⟨(some 13), none, .aidx 4 2 (.tmp 9) (.tmp 10)⟩, ⟨(some 6), none, .alloc [.pv .nilFn, .pv .nilFn]⟩, ⟨(some 5), none, .mov (.tmp 12)⟩, ⟨none, none, .store 2 (.tmp 6) (.tmp 13)⟩]
def plex_nextr4 : List GOp := [⟨(some 14), none, .fld 0 (.tmp 6)⟩, ⟨(some 15), none, .load false 1 (.tmp 14)⟩, ⟨(some 16), none, .mov (.tmp 0)⟩, ⟨(some 17), none, .sidx (.tmp 16) (.cst (.int .i64 0))⟩, ⟨(some 18), none, .call 0 0 (.tmp 15) [(.tmp 17)] [] []⟩]
def plex_nextr5 : List GOp := [⟨(some 20), none, .fld 1 (.tmp 6)⟩, ⟨(some 21), none, .load false 1 (.tmp 20)⟩, ⟨(some 22), none, .mov (.tmp 0)⟩, ⟨(some 23), none, .call 0 0 (.tmp 21) [(.tmp 22)] [] []⟩, ⟨(some 19), none, .mov (.tmp 23)⟩, ⟨(some 24), none, .ext 0 (.tmp 19)⟩, ⟨(some 25), none, .ext 1 (.tmp 19)⟩, ⟨(some 7), none, .mov (.tmp 24)⟩, ⟨(some 8), none, .mov (.tmp 25)⟩]
def plex_nextr6 : List GOp := [⟨(some 26), none, .mov (.tmp 5)⟩, ⟨(some 27), none, .mov (.tmp 7)⟩, ⟨(some 28), none, .mov (.tmp 8)⟩, ⟨(some 2), none, .mov (.tmp 26)⟩, ⟨(some 3), none, .mov (.tmp 27)⟩, ⟨(some 4), none, .mov (.tmp 28)⟩]
def plex_nextr7 : List GOp := [⟨(some 29), none, .bin false .add (.tmp 10) (.cst (.int .i64 1))⟩, ⟨(some 10), none, .mov (.tmp 29)⟩]
def plex_nextl8 : AC := (.keep [] [(0, false), (9, false), (10, false)] [] [.loc 6 0] [] (.seq (.ops plex_nextr2) (.seq (.cond (.tmp 11) .skip (.exit 0)) (.seq (.pass 1 (.seq (.ops plex_nextr3) (.seq (.draw [] plex_nextr4) (.cond (.tmp 18) (.seq (.ops plex_nextr5) (.seq (.ops plex_nextr6) (.keep [] [(2, false), (3, false), (4, false)] [] [.loc 6 0] [] .ret))) .skip)))) (.ops plex_nextr7)))))
def plex_nextr9 : List GOp := [⟨(some 2), none, .mov (.cst (.int .i64 0))⟩, ⟨(some 3), none, .mov (.cst (.int .i64 0))⟩, ⟨(some 4), none, .mov (.cst (.int .i64 14))⟩]
def plex_nextb : AC := (.seq (.ops plex_nextr0) (.seq (.seq (.ops plex_nextr1) (.block 0 (.loop [0, 9, 10] [] plex_nextl8))) (.seq (.keep [] [] [] [] [] (.ops plex_nextr9)) (.keep [] [(2, false), (3, false), (4, false)] [] [.loc 6 0] [] .ret))))
def plex_next : Fd := ⟨1, [.tmp 2, .tmp 3, .tmp 4], [], plex_nextb⟩
theorem plex_next_ag : agreeF Tryd.prog Tryd.f21 plex_next = true := by kernel_rfl
theorem lex_next_ok {s1 : List UInt8} {r : Int × Int × Int} (h : lex_next s1 = some r) : Contract Tryd.prog 21 [.pv (.str s1)] [] ⟨.tup [.pv (.int .i64 r.1), .pv (.int .i64 r.2.1), .pv (.int .i64 r.2.2)], [], []⟩ := by
 refine contract_fin hm Tryd.func21 plex_next_ag (by kernel_rfl) ?_
 unfold lex_next at h
 refine W.seqOps (RunR.all (by kernel_rfl)) ?_
 refine W.assoc ?_
 refine W.seqOps (RunR.cons (tab_cons (on := true) (fun _ => lex_kinds_ok) tab_nil) (Step.call0 (g := 29) (caps := []) (v := .pv (.agg (List.flatMap T_lex_kind.cl lex_kindsL))) (by kernel_rfl) (by kernel_rfl) (by kernel_rfl) (tab_hit (by kernel_rfl)) (by kernel_rfl)) (RunR.all (by kernel_rfl))) ?_
 replace h := bindS h
 obtain ⟨j2, hj2, h⟩ := h
 refine W.joinOut (j := j2) (o := r) (fun p σ => σ.tidy [] [] [] [] [] = ⟨[], []⟩) ?_ (fun p σj2 hp hsj2 => ?_) (fun p hp => ?_)
 ·refine W.blockLoopO (fun q σ => ((σ.forget [0, 9, 10]).killAll []).tidy [] [(0, false), (9, false), (10, false)] [] [.loc 6 0] [] = ⟨[(0, .pv (.str s1)), (9, .pv (.agg (List.flatMap T_lex_kind.cl lex_kindsL))), (10, .pv (.int .i64 q))], []⟩) hj2 ?_ ?_
  ·show _ = _
   kernel_rfl
  ·intro x3 σj2 oj2 hJj2 h
   refine W.keep hJj2 ?_
   refine W.seqOps (RunR.all (by kernel_rfl)) ?_
   refine W.seqCond (t := decide (x3 < 4)) (by kernel_rfl) h (fun hc h' => ?_) (fun hc h' => ?_)
   ·replace h := h'
    refine W.seqSkip ?_
    refine W.seqPass ?_
    refine W.assoc ?_
    replace h := bindS h
    obtain ⟨x4, hx4, h⟩ := h
    refine W.seqOps (RunR.stat 1 (by kernel_rfl) (RunR.dyn (Step.aidxT (f := T_lex_kind.pv) (g := T_lex_kind.cl) (l := lex_kindsL) (m := x3) (e := x4) (k := .i64) (by kernel_rfl) (by kernel_rfl) hx4 (by kernel_rfl) (fun _ => rfl) (fun _ => rfl)) (RunR.all (by kernel_rfl)))) ?_
    refine W.assoc ?_
    replace h := bindS h
    obtain ⟨x5, hx5, h⟩ := h
    replace h := bindS h
    obtain ⟨x6, hx6, h⟩ := h
    refine W.seqDraw (tab_cons (on := true) (fun _ => lex_call57_ok hx6) tab_nil) (Run.stat 3 (by kernel_rfl) (Run.dyn (Step.sidx (s := s1) (n := 0) (m := x5) (k := .i64) (by kernel_rfl) (by kernel_rfl) hx5) (Run.dyn (Step.call0 (g := x4.f_begins) (caps := []) (v := .pv (.bool x6)) (by kernel_rfl) (by kernel_rfl) (by kernel_rfl) (tab_hit (by kernel_rfl)) (by kernel_rfl)) ((Run.nil))))) ?_
    refine W.seqCond (t := x6) (by kernel_rfl) h (fun hc h' => ?_) (fun hc h' => ?_)
    ·replace h := h'
     refine W.assoc ?_
     replace h := bindS h
     obtain ⟨x7, hx7, h⟩ := h
     refine W.seqOps (RunR.stat 3 (by kernel_rfl) (RunR.cons (tab_cons (on := true) (fun _ => lex_call58_ok hx7) tab_nil) (Step.call0 (g := x4.f_long) (caps := []) (v := .tup [.pv (.int .i64 x7.1), .pv (.int .i64 x7.2)]) (by kernel_rfl) (by kernel_rfl) (by kernel_rfl) (tab_hit (by kernel_rfl)) (by kernel_rfl)) (RunR.all (by kernel_rfl)))) ?_
     refine W.assoc ?_
     refine W.seqOps (RunR.all (by kernel_rfl)) ?_
     refine W.seqKeep rfl ?_
     cases h
     exact W.seqRet ((outw_out ret_ne (bout_o ret_ne ret_ne' (fun e => by subst e; exact (fin_ret (by kernel_rfl))))))
    ·replace h := h'
     refine W.seqSkip ?_
     refine W.ops (RunR.all (by kernel_rfl)) ?_
     cases h
     exact (outw_in (by (show _ = _); kernel_rfl))
   ·replace h := h'
    cases h
    exact W.seqExit ((outw_out exit_ne (bout_x (by (show _ = _); kernel_rfl))))
 ·subst hp
  obtain ⟨⟩ := p
  refine W.seqKeep hsj2 ?_
  refine W.seqOps (RunR.all (by kernel_rfl)) ?_
  refine W.keep rfl ?_
  cases h
  exact W.ret ((fin_ret (by kernel_rfl)))
 ·subst hp
  exact Option.some.inj h
def plex_Rightr0 : List GOp := [⟨(some 1), none, .box (.tmp 0)⟩, ⟨(some 2), none, .mov (.cst (.bool false))⟩]
def plex_Rightr1 : List GOp := [⟨(some 6), none, .fld 3 (.tmp 1)⟩, ⟨(some 7), none, .load false 1 (.tmp 6)⟩, ⟨(some 8), none, .bin false .eql (.tmp 7) (.cst (.str []))⟩]
def plex_Rightr2 : List GOp := [⟨(some 2), none, .mov (.cst (.bool false))⟩]
def plex_Rightr3 : List GOp := [⟨(some 10), none, .fld 3 (.tmp 1)⟩, ⟨(some 11), none, .load false 1 (.tmp 10)⟩, ⟨(some 12), none, .call 0 0 (.cst (.fn 21)) [(.tmp 11)] [] []⟩, ⟨(some 9), none, .mov (.tmp 12)⟩, ⟨(some 13), none, .ext 0 (.tmp 9)⟩, ⟨(some 14), none, .ext 1 (.tmp 9)⟩, ⟨(some 15), none, .ext 2 (.tmp 9)⟩, ⟨(some 3), none, .mov (.tmp 13)⟩, ⟨(some 4), none, .mov (.tmp 14)⟩, ⟨(some 5), none, .mov (.tmp 15)⟩]
def plex_Rightr4 : List GOp := [⟨(some 16), none, .mov (.tmp 5)⟩, ⟨(some 17), none, .bin false .eql (.tmp 16) (.cst (.int .i64 0))⟩, ⟨(some 18), none, .mov (.tmp 17)⟩, ⟨(some 19), (some (18, true)), .mov (.tmp 3)⟩, ⟨(some 20), (some (18, true)), .fld 0 (.tmp 1)⟩, ⟨(some 21), (some (18, true)), .load false 1 (.tmp 20)⟩, ⟨(some 22), (some (18, true)), .bin false .eql (.tmp 19) (.tmp 21)⟩, ⟨(some 23), none, .pick (.tmp 18) (.tmp 22) (.cst (.bool false))⟩, ⟨(some 24), none, .mov (.tmp 23)⟩, ⟨(some 25), (some (24, true)), .mov (.tmp 4)⟩, ⟨(some 26), (some (24, true)), .fld 3 (.tmp 1)⟩, ⟨(some 27), (some (24, true)), .load false 1 (.tmp 26)⟩, ⟨(some 28), (some (24, true)), .len true (.tmp 27)⟩, ⟨(some 29), (some (24, true)), .bin false .eql (.tmp 25) (.tmp 28)⟩, ⟨(some 30), none, .pick (.tmp 24) (.tmp 29) (.cst (.bool false))⟩, ⟨(some 2), none, .mov (.tmp 30)⟩]
def plex_Rightb : AC := (.seq (.ops plex_Rightr0) (.seq (.seq (.ops plex_Rightr1) (.cond (.tmp 8) (.seq (.ops plex_Rightr2) (.keep [] [(2, false)] [] [.loc 1 0] [] .ret)) .skip)) (.seq (.ops plex_Rightr3) (.seq (.ops plex_Rightr4) (.keep [] [(2, false)] [] [.loc 1 0] [] .ret)))))
def plex_Right : Fd := ⟨1, [.tmp 2], [], plex_Rightb⟩
theorem plex_Right_ag : agreeF Tryd.prog Tryd.f14 plex_Right = true := by kernel_rfl
theorem lex_Right_ok {t1 : T_api_Token} {r : Bool} (h : lex_Right t1 = some r) : Contract Tryd.prog 14 [.pv (T_api_Token.pv t1)] [] ⟨.pv (.bool r), [], []⟩ := by
 refine contract_fin hm Tryd.func14 plex_Right_ag (by kernel_rfl) ?_
 unfold lex_Right at h
 refine W.seqOps (RunR.all (by kernel_rfl)) ?_
 refine W.assoc ?_
 refine W.seqOps (RunR.all (by kernel_rfl)) ?_
 refine W.seqCond (t := (t1.f_Text == [])) (by kernel_rfl) h (fun hc h' => ?_) (fun hc h' => ?_)
 ·replace h := h'
  refine W.assoc ?_
  refine W.seqOps (RunR.all (by kernel_rfl)) ?_
  refine W.seqKeep rfl ?_
  cases h
  exact W.seqRet ((fin_ret (by kernel_rfl)))
 ·replace h := h'
  refine W.seqSkip ?_
  replace h := bindS h
  obtain ⟨x2, hx2, h⟩ := h
  refine W.seqOps (RunR.stat 2 (by kernel_rfl) (RunR.cons (tab_cons (on := true) (fun _ => lex_next_ok hx2) tab_nil) (Step.call0 (g := 21) (caps := []) (v := .tup [.pv (.int .i64 x2.1), .pv (.int .i64 x2.2.1), .pv (.int .i64 x2.2.2)]) (by kernel_rfl) (by kernel_rfl) (by kernel_rfl) (tab_hit (by kernel_rfl)) (by kernel_rfl)) (RunR.all (by kernel_rfl)))) ?_
  replace h := bindS h
  obtain ⟨c3, hc3, h⟩ := h
  replace h := bindS h
  obtain ⟨c4, hc4, h⟩ := h
  refine W.seqOps (RunR.stat 2 (by kernel_rfl) (RunR.dyn (Step.name (f := eBool) (e := (x2.2.2 == 0)) (c := c3) (by kernel_rfl) hc3) (RunR.puts 5 [(23, .pv (.bool (c3 && (x2.1 == t1.f_Kind)))), (22, (bif c3 then (.pv (.bool (x2.1 == t1.f_Kind))) else (.tup []))), (21, (bif c3 then (.pv (.int .i64 t1.f_Kind)) else (.tup []))), (20, (bif c3 then (.ptr (.loc 1 0) 0) else (.tup []))), (19, (bif c3 then (.pv (.int .i64 x2.1)) else (.tup [])))] (by cases c3 <;> kernel_rfl) (RunR.dyn (Step.name (f := eBool) (e := (c3 && (x2.1 == t1.f_Kind))) (c := c4) (by kernel_rfl) hc4) (RunR.puts 6 [(30, .pv (.bool (c4 && (x2.2.1 == (t1.f_Text.length : Int))))), (29, (bif c4 then (.pv (.bool (x2.2.1 == (t1.f_Text.length : Int)))) else (.tup []))), (28, (bif c4 then (.pv (.int .i64 (t1.f_Text.length : Int))) else (.tup []))), (27, (bif c4 then (.pv (.str t1.f_Text)) else (.tup []))), (26, (bif c4 then (.ptr (.loc 1 0) 3) else (.tup []))), (25, (bif c4 then (.pv (.int .i64 x2.2.1)) else (.tup [])))] (by cases c4 <;> kernel_rfl) (RunR.all (by kernel_rfl))))))) ?_
  refine W.keep rfl ?_
  cases h
  exact W.ret ((fin_ret (by kernel_rfl)))
def plex_Joinr0 : List GOp := [⟨(some 2), none, .mov (.cst (.str []))⟩, ⟨(some 3), none, .mov (.cst (.int .i64 0))⟩]
def plex_Joinr1 : List GOp := [⟨(some 4), none, .mov .nils⟩]
def plex_Joinr2 : List GOp := [⟨(some 8), none, .mov (.tmp 0)⟩, ⟨(some 9), none, .len false (.tmp 8)⟩, ⟨(some 10), none, .mov (.cst (.int .i64 0))⟩]
def plex_Joinr3 : List GOp := [⟨(some 11), none, .bin false .lss (.tmp 10) (.tmp 9)⟩]
def plex_Joinr4 : List GOp := [⟨(some 12), none, .idx 4 (.tmp 8) (.tmp 10)⟩, ⟨(some 13), none, .load true 4 (.tmp 12)⟩, ⟨(some 6), none, .alloc [.pv (.int .i64 0), .pv (.int .i64 0), .pv (.int .i64 0), .pv (.str [])]⟩, ⟨none, none, .store 4 (.tmp 6) (.tmp 13)⟩]
def plex_Joinr5 : List GOp := [⟨(some 14), none, .load true 4 (.tmp 6)⟩, ⟨(some 15), none, .call 0 0 (.cst (.fn 14)) [(.tmp 14)] [] []⟩, ⟨(some 16), none, .un .not (.tmp 15)⟩]
def plex_Joinr6 : List GOp := [⟨(some 2), none, .mov (.cst (.str []))⟩, ⟨(some 3), none, .mov (.cst (.int .i64 1))⟩]
def plex_Joinr7 : List GOp := [⟨(some 17), none, .mov (.tmp 4)⟩, ⟨(some 18), none, .fld 3 (.tmp 6)⟩, ⟨(some 19), none, .load false 1 (.tmp 18)⟩, ⟨(some 20), none, .lit false 1 [(.tmp 19)]⟩, ⟨(some 21), none, .append 4 1 16 (.tmp 17) (.tmp 20)⟩, ⟨(some 4), none, .mov (.tmp 21)⟩]
def plex_Joinr8 : List GOp := [⟨(some 22), none, .bin false .add (.tmp 10) (.cst (.int .i64 1))⟩, ⟨(some 10), none, .mov (.tmp 22)⟩]
def plex_Joinl9 : AC := (.keep [] [(0, false), (4, false), (8, false), (9, false), (10, false)] [(.loc 4 0, false)] [.loc 6 0] [.slot 4 (.loc 4 0) 1] (.seq (.ops plex_Joinr3) (.seq (.cond (.tmp 11) .skip (.exit 0)) (.seq (.pass 1 (.seq (.ops plex_Joinr4) (.seq (.seq (.ops plex_Joinr5) (.cond (.tmp 16) (.seq (.ops plex_Joinr6) (.keep [] [(2, false), (3, false)] [] [.loc 4 0, .loc 6 0] [] .ret)) .skip)) (.ops plex_Joinr7)))) (.ops plex_Joinr8)))))
def plex_Joinr10 : List GOp := [⟨(some 23), none, .mov (.tmp 0)⟩, ⟨(some 24), none, .len false (.tmp 23)⟩, ⟨(some 25), none, .bin false .gtr (.tmp 24) (.cst (.int .i64 1500))⟩]
def plex_Joinr11 : List GOp := [⟨(some 2), none, .mov (.cst (.str []))⟩, ⟨(some 3), none, .mov (.cst (.int .i64 6))⟩]
def plex_Joinr12 : List GOp := [⟨(some 26), none, .mov (.tmp 4)⟩, ⟨(some 27), none, .call 0 0 (.cst (.fn 25)) [(.tmp 26), (.cst (.str [32]))] [] []⟩, ⟨(some 7), none, .mov (.tmp 27)⟩]
def plex_Joinr13 : List GOp := [⟨(some 28), none, .mov (.tmp 7)⟩, ⟨(some 29), none, .len true (.tmp 28)⟩, ⟨(some 30), none, .bin false .gtr (.tmp 29) (.cst (.int .i64 8000))⟩]
def plex_Joinr14 : List GOp := [⟨(some 2), none, .mov (.cst (.str []))⟩, ⟨(some 3), none, .mov (.cst (.int .i64 4))⟩]
def plex_Joinr15 : List GOp := [⟨(some 31), none, .mov (.tmp 7)⟩, ⟨(some 2), none, .mov (.tmp 31)⟩, ⟨(some 3), none, .mov (.cst (.int .i64 0))⟩]
def plex_Joinb : AC := (.seq (.ops plex_Joinr0) (.seq (.ops plex_Joinr1) (.seq (.seq (.ops plex_Joinr2) (.block 0 (.loop [0, 4, 8, 9, 10] [] plex_Joinl9))) (.seq (.seq (.keep [.loc 4 0] [(0, false), (4, true)] [] [] [] (.ops plex_Joinr10)) (.cond (.tmp 25) (.seq (.ops plex_Joinr11) (.keep [] [(2, false), (3, false)] [] [.loc 4 0, .loc 6 0] [] .ret)) .skip)) (.seq (.ops plex_Joinr12) (.seq (.seq (.ops plex_Joinr13) (.cond (.tmp 30) (.seq (.ops plex_Joinr14) (.keep [] [(2, false), (3, false)] [] [.loc 4 0, .loc 6 0] [] .ret)) .skip)) (.seq (.ops plex_Joinr15) (.keep [] [(2, false), (3, false)] [] [.loc 4 0, .loc 6 0] [] .ret))))))))
def plex_Join : Fd := ⟨1, [.tmp 2, .tmp 3], [], plex_Joinb⟩
theorem plex_Join_ag : agreeF Tryd.prog Tryd.f16 plex_Join = true := by kernel_rfl
theorem lex_Join_ok {l1 : List T_api_Token} {r : (List UInt8) × Int} (h : lex_Join l1 = some r) : Contract Tryd.prog 16 [.pv (.slice (List.map T_api_Token.pv l1))] [] ⟨.tup [.pv (.str r.1), .pv (.int .i64 r.2)], [], []⟩ := by
 refine contract_fin hm Tryd.func16 plex_Join_ag (by kernel_rfl) ?_
 unfold lex_Join at h
 refine W.seqOps (RunR.all (by kernel_rfl)) ?_
 refine W.seqOps (RunR.all (by kernel_rfl)) ?_
 refine W.assoc ?_
 refine W.seqOps (RunR.stat 1 (by kernel_rfl) (RunR.dyn (Step.lenT (f := T_api_Token.pv) (l := l1) (by kernel_rfl)) (RunR.all (by kernel_rfl)))) ?_
 replace h := bindS h
 obtain ⟨j2, hj2, h⟩ := h
 refine W.joinOut (j := j2) (o := r) (fun p σ => σ.tidy [.loc 4 0] [(0, false), (4, true)] [] [] [] = ⟨[(0, .pv (.slice (List.map T_api_Token.pv l1))), (4, .pv (.slice (List.map eStr p)))], []⟩) ?_ (fun pieces8 σj2 hp hsj2 => ?_) (fun p hp => ?_)
 ·refine W.blockLoopO (fun q σ => ((σ.forget [0, 4, 8, 9, 10]).killAll []).tidy [] [(0, false), (4, false), (8, false), (9, false), (10, false)] [(.loc 4 0, false)] [.loc 6 0] [.slot 4 (.loc 4 0) 1] = ⟨[(0, .pv (.slice (List.map T_api_Token.pv l1))), (4, .own (.loc 4 0)), (8, .pv (.slice (List.map T_api_Token.pv l1))), (9, .pv (.int .i64 (l1.length : Int))), (10, .pv (.int .i64 q.1))], [(.loc 4 0, .row 1 (List.map eStr q.2))]⟩) hj2 ?_ ?_
  ·show _ = _
   kernel_rfl
  ·intro q σj2 oj2 hJj2 h
   obtain ⟨x3, row4⟩ := q
   refine W.keep hJj2 ?_
   refine W.seqOps (RunR.all (by kernel_rfl)) ?_
   refine W.seqCond (t := decide (x3 < (l1.length : Int))) (by kernel_rfl) h (fun hc h' => ?_) (fun hc h' => ?_)
   ·replace h := h'
    refine W.seqSkip ?_
    refine W.seqPass ?_
    refine W.assoc ?_
    replace h := bindS h
    obtain ⟨x5, hx5, h⟩ := h
    refine W.seqOps (RunR.dyn (Step.idxT (f := T_api_Token.pv) (l := l1) (n := x3) (e := x5) (k := .i64) (by kernel_rfl) (by kernel_rfl) hx5 (by kernel_rfl)) (RunR.all (by kernel_rfl))) ?_
    refine W.assoc ?_
    refine W.assoc ?_
    replace h := bindS h
    obtain ⟨x6, hx6, h⟩ := h
    refine W.seqOps (RunR.stat 1 (by kernel_rfl) (RunR.cons (tab_cons (on := true) (fun _ => lex_Right_ok hx6) tab_nil) (Step.call0 (g := 14) (caps := []) (v := .pv (.bool x6)) (by kernel_rfl) (by kernel_rfl) (by kernel_rfl) (tab_hit (by kernel_rfl)) (by kernel_rfl)) (RunR.all (by kernel_rfl)))) ?_
    refine W.seqCond (t := !x6) (by kernel_rfl) h (fun hc h' => ?_) (fun hc h' => ?_)
    ·replace h := h'
     refine W.assoc ?_
     refine W.seqOps (RunR.all (by kernel_rfl)) ?_
     refine W.seqKeep rfl ?_
     cases h
     exact W.seqRet ((outw_out ret_ne (bout_o ret_ne ret_ne' (fun e => by subst e; exact (fin_ret (by kernel_rfl))))))
    ·replace h := h'
     refine W.seqSkip ?_
     replace h := bindS h
     obtain ⟨x7, hx7, h⟩ := h
     refine W.seqOps (RunR.stat 4 (by kernel_rfl) (RunR.dyn (Step.appendOwnT (k := .loc 4 0) (f := eStr) (l := row4) (m := [x5.f_Text]) (by kernel_rfl) (by kernel_rfl) (by kernel_rfl) hx7 (fun _ => rfl) (by kernel_rfl)) (RunR.all (by kernel_rfl)))) ?_
     refine W.ops (RunR.all (by kernel_rfl)) ?_
     cases h
     exact (outw_in (by (show _ = _); kernel_rfl))
   ·replace h := h'
    cases h
    exact W.seqExit ((outw_out exit_ne (bout_x (by (show _ = _); kernel_rfl))))
 ·subst hp
  refine W.assoc ?_
  refine W.seqKeep hsj2 ?_
  refine W.seqOps (RunR.stat 1 (by kernel_rfl) (RunR.dyn (Step.lenT (f := T_api_Token.pv) (l := l1) (by kernel_rfl)) (RunR.all (by kernel_rfl)))) ?_
  refine W.seqCond (t := decide ((l1.length : Int) > 1500)) (by kernel_rfl) h (fun hc h' => ?_) (fun hc h' => ?_)
  ·replace h := h'
   refine W.assoc ?_
   refine W.seqOps (RunR.all (by kernel_rfl)) ?_
   refine W.seqKeep rfl ?_
   cases h
   exact W.seqRet ((fin_ret (by kernel_rfl)))
  ·replace h := h'
   refine W.seqSkip ?_
   replace h := bindS h
   obtain ⟨x9, hx9, h⟩ := h
   refine W.seqOps (RunR.stat 1 (by kernel_rfl) (RunR.cons (tab_cons (on := true) (fun _ => strings_Join_ok hx9) tab_nil) (Step.call0 (g := 25) (caps := []) (v := .pv (.str x9)) (by kernel_rfl) (by kernel_rfl) (by kernel_rfl) (tab_hit (by kernel_rfl)) (by kernel_rfl)) (RunR.all (by kernel_rfl)))) ?_
   refine W.assoc ?_
   refine W.seqOps (RunR.all (by kernel_rfl)) ?_
   refine W.seqCond (t := decide ((x9.length : Int) > 8000)) (by kernel_rfl) h (fun hc h' => ?_) (fun hc h' => ?_)
   ·replace h := h'
    refine W.assoc ?_
    refine W.seqOps (RunR.all (by kernel_rfl)) ?_
    refine W.seqKeep rfl ?_
    cases h
    exact W.seqRet ((fin_ret (by kernel_rfl)))
   ·replace h := h'
    refine W.seqSkip ?_
    refine W.seqOps (RunR.all (by kernel_rfl)) ?_
    refine W.keep rfl ?_
    cases h
    exact W.ret ((fin_ret (by kernel_rfl)))
 ·subst hp
  exact Option.some.inj h
def plex_skipr0 : List GOp := [⟨(some 2), none, .mov (.cst (.int .i64 0))⟩]
def plex_skipr1 : List GOp := [⟨(some 7), none, .mov (.tmp 0)⟩, ⟨(some 3), none, .mov (.tmp 7)⟩]
def plex_skipr2 : List GOp := [⟨(some 8), none, .mov (.tmp 3)⟩, ⟨(some 9), none, .call 0 0 (.cst (.fn 26)) [(.tmp 8), (.cst (.str [32, 9, 10]))] [] []⟩, ⟨(some 3), none, .mov (.tmp 9)⟩]
def plex_skipr3 : List GOp := [⟨(some 10), none, .mov (.tmp 3)⟩, ⟨(some 11), none, .call 0 0 (.cst (.fn 27)) [(.tmp 10), (.cst (.str [35]))] [] []⟩, ⟨(some 12), none, .un .not (.tmp 11)⟩]
def plex_skipr4 : List GOp := [⟨(some 13), none, .mov (.tmp 0)⟩, ⟨(some 14), none, .len true (.tmp 13)⟩, ⟨(some 15), none, .mov (.tmp 3)⟩, ⟨(some 16), none, .len true (.tmp 15)⟩, ⟨(some 17), none, .bin false .sub (.tmp 14) (.tmp 16)⟩, ⟨(some 2), none, .mov (.tmp 17)⟩]
def plex_skipr5 : List GOp := [⟨(some 19), none, .mov (.tmp 3)⟩, ⟨(some 20), none, .call 0 0 (.cst (.fn 28)) [(.tmp 19), (.cst (.str [10]))] [] []⟩, ⟨(some 18), none, .mov (.tmp 20)⟩, ⟨(some 21), none, .ext 0 (.tmp 18)⟩, ⟨(some 22), none, .ext 1 (.tmp 18)⟩, ⟨(some 23), none, .ext 2 (.tmp 18)⟩, ⟨(some 4), none, .mov (.tmp 21)⟩, ⟨(some 5), none, .mov (.tmp 22)⟩, ⟨(some 6), none, .mov (.tmp 23)⟩]
def plex_skipr6 : List GOp := [⟨(some 24), none, .mov (.tmp 6)⟩, ⟨(some 25), none, .un .not (.tmp 24)⟩]
def plex_skipr7 : List GOp := [⟨(some 26), none, .mov (.tmp 0)⟩, ⟨(some 27), none, .len true (.tmp 26)⟩, ⟨(some 2), none, .mov (.tmp 27)⟩]
def plex_skipr8 : List GOp := [⟨(some 28), none, .mov (.tmp 5)⟩, ⟨(some 3), none, .mov (.tmp 28)⟩]
def plex_skipl9 : AC := (.keep [] [(0, false), (3, false)] [] [] [] (.pass 1 (.seq (.ops plex_skipr2) (.seq (.seq (.ops plex_skipr3) (.cond (.tmp 12) (.seq (.ops plex_skipr4) (.keep [] [(2, false)] [] [] [] .ret)) .skip)) (.seq (.ops plex_skipr5) (.seq (.seq (.ops plex_skipr6) (.cond (.tmp 25) (.seq (.ops plex_skipr7) (.keep [] [(2, false)] [] [] [] .ret)) .skip)) (.ops plex_skipr8)))))))
def plex_skipb : AC := (.seq (.ops plex_skipr0) (.seq (.ops plex_skipr1) (.pass 0 (.loop [0, 3] [] plex_skipl9))))
def plex_skip : Fd := ⟨1, [.tmp 2], [], plex_skipb⟩
theorem plex_skip_ag : agreeF Tryd.prog Tryd.f20 plex_skip = true := by kernel_rfl
theorem lex_skip_ok {s1 : List UInt8} {r : Int} (h : lex_skip s1 = some r) : Contract Tryd.prog 20 [.pv (.str s1)] [] ⟨.pv (.int .i64 r), [], []⟩ := by
 refine contract_fin hm Tryd.func20 plex_skip_ag (by kernel_rfl) ?_
 unfold lex_skip at h
 refine W.seqOps (RunR.all (by kernel_rfl)) ?_
 refine W.seqOps (RunR.all (by kernel_rfl)) ?_
 refine W.pass ?_
 refine W.loopOut (fun q σ => ((σ.forget [0, 3]).killAll []).tidy [] [(0, false), (3, false)] [] [] [] = ⟨[(0, .pv (.str s1)), (3, .pv (.str q))], []⟩) h ?_ ?_
 ·show _ = _
  kernel_rfl
 ·intro rest3 σj2 oj2 hJj2 h
  refine W.keep hJj2 ?_
  refine W.pass ?_
  replace h := bindS h
  obtain ⟨x4, hx4, h⟩ := h
  refine W.seqOps (RunR.stat 1 (by kernel_rfl) (RunR.cons (tab_cons (on := true) (fun _ => strings_TrimLeft_ok hx4) tab_nil) (Step.call0 (g := 26) (caps := []) (v := .pv (.str x4)) (by kernel_rfl) (by kernel_rfl) (by kernel_rfl) (tab_hit (by kernel_rfl)) (by kernel_rfl)) (RunR.all (by kernel_rfl)))) ?_
  refine W.assoc ?_
  replace h := bindS h
  obtain ⟨x5, hx5, h⟩ := h
  refine W.seqOps (RunR.stat 1 (by kernel_rfl) (RunR.cons (tab_cons (on := true) (fun _ => strings_HasPrefix_ok hx5) tab_nil) (Step.call0 (g := 27) (caps := []) (v := .pv (.bool x5)) (by kernel_rfl) (by kernel_rfl) (by kernel_rfl) (tab_hit (by kernel_rfl)) (by kernel_rfl)) (RunR.all (by kernel_rfl)))) ?_
  refine W.seqCond (t := !x5) (by kernel_rfl) h (fun hc h' => ?_) (fun hc h' => ?_)
  ·replace h := h'
   refine W.assoc ?_
   refine W.seqOps (RunR.all (by kernel_rfl)) ?_
   refine W.seqKeep rfl ?_
   cases h
   exact W.seqRet ((outw_out ret_ne (fun e => by subst e; exact (fin_ret (by kernel_rfl)))))
  ·replace h := h'
   refine W.seqSkip ?_
   replace h := bindS h
   obtain ⟨x6, hx6, h⟩ := h
   refine W.seqOps (RunR.stat 1 (by kernel_rfl) (RunR.cons (tab_cons (on := true) (fun _ => strings_Cut_ok hx6) tab_nil) (Step.call0 (g := 28) (caps := []) (v := .tup [.pv (.str x6.1), .pv (.str x6.2.1), .pv (.bool x6.2.2)]) (by kernel_rfl) (by kernel_rfl) (by kernel_rfl) (tab_hit (by kernel_rfl)) (by kernel_rfl)) (RunR.all (by kernel_rfl)))) ?_
   refine W.assoc ?_
   refine W.seqOps (RunR.all (by kernel_rfl)) ?_
   refine W.seqCond (t := !x6.2.2) (by kernel_rfl) h (fun hc h' => ?_) (fun hc h' => ?_)
   ·replace h := h'
    refine W.assoc ?_
    refine W.seqOps (RunR.all (by kernel_rfl)) ?_
    refine W.seqKeep rfl ?_
    cases h
    exact W.seqRet ((outw_out ret_ne (fun e => by subst e; exact (fin_ret (by kernel_rfl)))))
   ·replace h := h'
    refine W.seqSkip ?_
    refine W.ops (RunR.all (by kernel_rfl)) ?_
    cases h
    exact (outw_in (by (show _ = _); kernel_rfl))
def plex_placer0 : List GOp := [⟨(some 2), none, .mov (.cst (.int .i64 0))⟩, ⟨(some 3), none, .mov (.cst (.int .i64 0))⟩]
def plex_placer1 : List GOp := [⟨(some 4), none, .mov (.tmp 0)⟩, ⟨(some 5), none, .call 0 0 (.cst (.fn 30)) [(.tmp 4), (.cst (.str [10]))] [] []⟩, ⟨(some 6), none, .bin false .add (.tmp 5) (.cst (.int .i64 1))⟩, ⟨(some 7), none, .mov (.tmp 0)⟩, ⟨(some 8), none, .len true (.tmp 7)⟩, ⟨(some 9), none, .mov (.tmp 0)⟩, ⟨(some 10), none, .call 0 0 (.cst (.fn 31)) [(.tmp 9), (.cst (.int .u8 10))] [] []⟩, ⟨(some 11), none, .bin false .sub (.tmp 8) (.tmp 10)⟩, ⟨(some 2), none, .mov (.tmp 6)⟩, ⟨(some 3), none, .mov (.tmp 11)⟩]
def plex_placeb : AC := (.seq (.ops plex_placer0) (.seq (.ops plex_placer1) (.keep [] [(2, false), (3, false)] [] [] [] .ret)))
def plex_place : Fd := ⟨1, [.tmp 2, .tmp 3], [], plex_placeb⟩
theorem plex_place_ag : agreeF Tryd.prog Tryd.f22 plex_place = true := by kernel_rfl
theorem lex_place_ok {s1 : List UInt8} {r : Int × Int} (h : lex_place s1 = some r) : Contract Tryd.prog 22 [.pv (.str s1)] [] ⟨.tup [.pv (.int .i64 r.1), .pv (.int .i64 r.2)], [], []⟩ := by
 refine contract_fin hm Tryd.func22 plex_place_ag (by kernel_rfl) ?_
 unfold lex_place at h
 refine W.seqOps (RunR.all (by kernel_rfl)) ?_
 replace h := bindS h
 obtain ⟨x2, hx2, h⟩ := h
 replace h := bindS h
 obtain ⟨x3, hx3, h⟩ := h
 refine W.seqOps (RunR.stat 1 (by kernel_rfl) (RunR.cons (tab_cons (on := true) (fun _ => strings_Count_ok hx2) tab_nil) (Step.call0 (g := 30) (caps := []) (v := .pv (.int .i64 x2)) (by kernel_rfl) (by kernel_rfl) (by kernel_rfl) (tab_hit (by kernel_rfl)) (by kernel_rfl)) (RunR.stat 4 (by kernel_rfl) (RunR.cons (tab_cons (on := true) (fun _ => strings_LastIndexByte_ok hx3) tab_nil) (Step.call0 (g := 31) (caps := []) (v := .pv (.int .i64 x3)) (by kernel_rfl) (by kernel_rfl) (by kernel_rfl) (tab_hit (by kernel_rfl)) (by kernel_rfl)) (RunR.all (by kernel_rfl)))))) ?_
 refine W.keep rfl ?_
 cases h
 exact W.ret ((fin_ret (by kernel_rfl)))
def plex_Allr0 : List GOp := [⟨(some 2), none, .mov .nils⟩, ⟨(some 3), none, .mov (.cst (.int .i64 0))⟩, ⟨(some 4), none, .mov (.cst (.int .i64 0))⟩]
def plex_Allr1 : List GOp := [⟨(some 12), none, .mov (.tmp 0)⟩, ⟨(some 13), none, .len true (.tmp 12)⟩, ⟨(some 14), none, .bin false .gtr (.tmp 13) (.cst (.int .i64 8000))⟩]
def plex_Allr2 : List GOp := [⟨(some 2), none, .mov .nils⟩, ⟨(some 3), none, .mov (.cst (.int .i64 0))⟩, ⟨(some 4), none, .mov (.cst (.int .i64 4))⟩]
def plex_Allr3 : List GOp := [⟨(some 5), none, .mov .nils⟩]
def plex_Allr4 : List GOp := [⟨(some 15), none, .mov (.tmp 0)⟩, ⟨(some 16), none, .call 0 0 (.cst (.fn 20)) [(.tmp 15)] [] []⟩, ⟨(some 6), none, .mov (.tmp 16)⟩]
def plex_Allr5 : List GOp := [⟨(some 17), none, .mov (.tmp 6)⟩, ⟨(some 18), none, .mov (.tmp 0)⟩, ⟨(some 19), none, .len true (.tmp 18)⟩, ⟨(some 20), none, .bin false .lss (.tmp 17) (.tmp 19)⟩]
def plex_Allr6 : List GOp := [⟨(some 22), none, .mov (.tmp 0)⟩, ⟨(some 23), none, .mov (.tmp 6)⟩, ⟨(some 24), none, .slc true 0 (.tmp 22) (some (.tmp 23)) none⟩, ⟨(some 25), none, .call 0 0 (.cst (.fn 21)) [(.tmp 24)] [] []⟩, ⟨(some 21), none, .mov (.tmp 25)⟩, ⟨(some 26), none, .ext 0 (.tmp 21)⟩, ⟨(some 27), none, .ext 1 (.tmp 21)⟩, ⟨(some 28), none, .ext 2 (.tmp 21)⟩, ⟨(some 7), none, .mov (.tmp 26)⟩, ⟨(some 8), none, .mov (.tmp 27)⟩, ⟨(some 9), none, .mov (.tmp 28)⟩]
def plex_Allr7 : List GOp := [⟨(some 30), none, .mov (.tmp 9)⟩, ⟨(some 31), none, .bin false .neq (.tmp 30) (.cst (.int .i64 0))⟩, ⟨(some 29), none, .mov (.tmp 31)⟩]
def plex_Allr8 : List GOp := [⟨(some 32), none, .mov (.tmp 6)⟩, ⟨(some 33), none, .mov (.tmp 9)⟩, ⟨(some 2), none, .mov .nils⟩, ⟨(some 3), none, .mov (.tmp 32)⟩, ⟨(some 4), none, .mov (.tmp 33)⟩]
def plex_Allr9 : List GOp := [⟨(some 35), none, .mov (.tmp 5)⟩, ⟨(some 36), none, .len false (.tmp 35)⟩, ⟨(some 37), none, .bin false .eql (.tmp 36) (.cst (.int .i64 1500))⟩, ⟨(some 34), none, .mov (.tmp 37)⟩]
def plex_Allr10 : List GOp := [⟨(some 38), none, .mov (.tmp 6)⟩, ⟨(some 2), none, .mov .nils⟩, ⟨(some 3), none, .mov (.tmp 38)⟩, ⟨(some 4), none, .mov (.cst (.int .i64 6))⟩]
def plex_Allr11 : List GOp := [⟨(some 40), none, .mov (.tmp 0)⟩, ⟨(some 41), none, .mov (.tmp 6)⟩, ⟨(some 42), none, .slc true 0 (.tmp 40) none (some (.tmp 41))⟩, ⟨(some 43), none, .call 0 0 (.cst (.fn 22)) [(.tmp 42)] [] []⟩, ⟨(some 39), none, .mov (.tmp 43)⟩, ⟨(some 44), none, .ext 0 (.tmp 39)⟩, ⟨(some 45), none, .ext 1 (.tmp 39)⟩, ⟨(some 10), none, .mov (.tmp 44)⟩, ⟨(some 11), none, .mov (.tmp 45)⟩]
def plex_Allr12 : List GOp := [⟨(some 46), none, .mov (.tmp 5)⟩, ⟨(some 47), none, .mov (.tmp 7)⟩, ⟨(some 48), none, .mov (.tmp 10)⟩, ⟨(some 49), none, .mov (.tmp 11)⟩, ⟨(some 50), none, .mov (.tmp 0)⟩, ⟨(some 51), none, .mov (.tmp 6)⟩, ⟨(some 52), none, .mov (.tmp 6)⟩, ⟨(some 53), none, .mov (.tmp 8)⟩, ⟨(some 54), none, .bin false .add (.tmp 52) (.tmp 53)⟩, ⟨(some 55), none, .slc true 0 (.tmp 50) (some (.tmp 51)) (some (.tmp 54))⟩, ⟨(some 56), none, .build [.pv (.int .i64 0), .pv (.int .i64 0), .pv (.int .i64 0), .pv (.str [])] [(0, 1, (.tmp 47)), (1, 1, (.tmp 48)), (2, 1, (.tmp 49)), (3, 1, (.tmp 55))]⟩, ⟨(some 57), none, .lit false 4 [(.tmp 56)]⟩, ⟨(some 58), none, .append 5 4 40 (.tmp 46) (.tmp 57)⟩, ⟨(some 5), none, .mov (.tmp 58)⟩]
def plex_Allr13 : List GOp := [⟨(some 59), none, .mov (.tmp 6)⟩, ⟨(some 60), none, .mov (.tmp 8)⟩, ⟨(some 61), none, .bin false .add (.tmp 59) (.tmp 60)⟩, ⟨(some 6), none, .mov (.tmp 61)⟩]
def plex_Allr14 : List GOp := [⟨(some 62), none, .mov (.tmp 6)⟩, ⟨(some 63), none, .mov (.tmp 0)⟩, ⟨(some 64), none, .mov (.tmp 6)⟩, ⟨(some 65), none, .slc true 0 (.tmp 63) (some (.tmp 64)) none⟩, ⟨(some 66), none, .call 0 0 (.cst (.fn 20)) [(.tmp 65)] [] []⟩, ⟨(some 67), none, .bin false .add (.tmp 62) (.tmp 66)⟩, ⟨(some 6), none, .mov (.tmp 67)⟩]
def plex_Alll15 : AC := (.keep [] [(0, false), (5, false), (6, false)] [(.loc 5 0, false)] [] [.slot 5 (.loc 5 0) 4] (.seq (.seq (.ops plex_Allr5) (.cond (.tmp 20) .skip (.exit 0))) (.pass 1 (.seq (.ops plex_Allr6) (.seq (.pass 2 (.seq (.ops plex_Allr7) (.cond (.tmp 29) (.seq (.ops plex_Allr8) (.keep [] [(2, true), (3, false), (4, false)] [] [.loc 5 0] [] .ret)) (.seq (.ops plex_Allr9) (.cond (.tmp 34) (.seq (.ops plex_Allr10) (.keep [] [(2, true), (3, false), (4, false)] [] [.loc 5 0] [] .ret)) .skip))))) (.seq (.ops plex_Allr11) (.seq (.ops plex_Allr12) (.seq (.ops plex_Allr13) (.ops plex_Allr14)))))))))
def plex_Allr16 : List GOp := [⟨(some 68), none, .mov (.tmp 5)⟩, ⟨(some 2), none, .mov (.tmp 68)⟩, ⟨(some 3), none, .mov (.cst (.int .i64 0))⟩, ⟨(some 4), none, .mov (.cst (.int .i64 0))⟩]
def plex_Allb : AC := (.seq (.ops plex_Allr0) (.seq (.seq (.ops plex_Allr1) (.cond (.tmp 14) (.seq (.ops plex_Allr2) (.keep [] [(2, true), (3, false), (4, false)] [] [.loc 5 0] [] .ret)) .skip)) (.seq (.ops plex_Allr3) (.seq (.seq (.ops plex_Allr4) (.block 0 (.loop [0, 5, 6] [] plex_Alll15))) (.seq (.keep [.loc 5 0] [(5, true)] [] [] [] (.ops plex_Allr16)) (.keep [] [(2, true), (3, false), (4, false)] [] [.loc 5 0] [] .ret))))))
def plex_All : Fd := ⟨1, [.tmp 2, .tmp 3, .tmp 4], [], plex_Allb⟩
theorem plex_All_ag : agreeF Tryd.prog Tryd.f8 plex_All = true := by kernel_rfl
theorem lex_All_ok {text1 : List UInt8} {r : (List T_api_Token) × Int × Int} (h : lex_All text1 = some r) : Contract Tryd.prog 8 [.pv (.str text1)] [] ⟨.tup [.pv (.slice (List.map T_api_Token.pv r.1)), .pv (.int .i64 r.2.1), .pv (.int .i64 r.2.2)], [], []⟩ := by
 refine contract_fin hm Tryd.func8 plex_All_ag (by kernel_rfl) ?_
 unfold lex_All at h
 refine W.seqOps (RunR.all (by kernel_rfl)) ?_
 refine W.assoc ?_
 refine W.seqOps (RunR.all (by kernel_rfl)) ?_
 refine W.seqCond (t := decide ((text1.length : Int) > 8000)) (by kernel_rfl) h (fun hc h' => ?_) (fun hc h' => ?_)
 ·replace h := h'
  refine W.assoc ?_
  refine W.seqOps (RunR.all (by kernel_rfl)) ?_
  refine W.seqKeep rfl ?_
  cases h
  exact W.seqRet ((fin_ret (by kernel_rfl)))
 ·replace h := h'
  refine W.seqSkip ?_
  refine W.seqOps (RunR.all (by kernel_rfl)) ?_
  refine W.assoc ?_
  replace h := bindS h
  obtain ⟨x2, hx2, h⟩ := h
  refine W.seqOps (RunR.stat 1 (by kernel_rfl) (RunR.cons (tab_cons (on := true) (fun _ => lex_skip_ok hx2) tab_nil) (Step.call0 (g := 20) (caps := []) (v := .pv (.int .i64 x2)) (by kernel_rfl) (by kernel_rfl) (by kernel_rfl) (tab_hit (by kernel_rfl)) (by kernel_rfl)) (RunR.all (by kernel_rfl)))) ?_
  replace h := bindS h
  obtain ⟨j3, hj3, h⟩ := h
  refine W.joinOut (j := j3) (o := r) (fun p σ => σ.tidy [.loc 5 0] [(5, true)] [] [] [] = ⟨[(5, .pv (.slice (List.map T_api_Token.pv p)))], []⟩) ?_ (fun out14 σj3 hp hsj3 => ?_) (fun p hp => ?_)
  ·refine W.blockLoopO (fun q σ => ((σ.forget [0, 5, 6]).killAll []).tidy [] [(0, false), (5, false), (6, false)] [(.loc 5 0, false)] [] [.slot 5 (.loc 5 0) 4] = ⟨[(0, .pv (.str text1)), (5, .own (.loc 5 0)), (6, .pv (.int .i64 q.1))], [(.loc 5 0, .row 4 (List.map T_api_Token.pv q.2))]⟩) hj3 ?_ ?_
   ·show _ = _
    kernel_rfl
   ·intro q σj3 oj3 hJj3 h
    obtain ⟨at_4, row5⟩ := q
    refine W.keep hJj3 ?_
    refine W.assoc ?_
    refine W.seqOps (RunR.all (by kernel_rfl)) ?_
    refine W.seqCond (t := decide (at_4 < (text1.length : Int))) (by kernel_rfl) h (fun hc h' => ?_) (fun hc h' => ?_)
    ·replace h := h'
     refine W.seqSkip ?_
     refine W.pass ?_
     replace h := bindS h
     obtain ⟨x6, hx6, h⟩ := h
     replace h := bindS h
     obtain ⟨x7, hx7, h⟩ := h
     refine W.seqOps (RunR.stat 2 (by kernel_rfl) (RunR.dyn (Step.slcS (s := text1) (m := x6) (a := at_4) (b := (text1.length : Int)) (by kernel_rfl) (Bd.some (k := .i64) (by kernel_rfl)) (Bd.none rfl) hx6) (RunR.cons (tab_cons (on := true) (fun _ => lex_next_ok hx7) tab_nil) (Step.call0 (g := 21) (caps := []) (v := .tup [.pv (.int .i64 x7.1), .pv (.int .i64 x7.2.1), .pv (.int .i64 x7.2.2)]) (by kernel_rfl) (by kernel_rfl) (by kernel_rfl) (tab_hit (by kernel_rfl)) (by kernel_rfl)) (RunR.all (by kernel_rfl))))) ?_
     refine W.seqPass ?_
     refine W.assoc ?_
     refine W.seqOps (RunR.all (by kernel_rfl)) ?_
     refine W.seqCond (t := (x7.2.2 != 0)) (by kernel_rfl) h (fun hc h' => ?_) (fun hc h' => ?_)
     ·replace h := h'
      refine W.assoc ?_
      refine W.seqOps (RunR.all (by kernel_rfl)) ?_
      refine W.seqKeep rfl ?_
      cases h
      exact W.seqRet ((outw_out ret_ne (bout_o ret_ne ret_ne' (fun e => by subst e; exact (fin_ret (by kernel_rfl))))))
     ·replace h := h'
      refine W.assoc ?_
      refine W.seqOps (RunR.stat 1 (by kernel_rfl) (RunR.dyn (Step.lenT (f := T_api_Token.pv) (l := row5) (by kernel_rfl)) (RunR.all (by kernel_rfl)))) ?_
      refine W.seqCond (t := ((row5.length : Int) == 1500)) (by kernel_rfl) h (fun hc h' => ?_) (fun hc h' => ?_)
      ·replace h := h'
       refine W.assoc ?_
       refine W.seqOps (RunR.all (by kernel_rfl)) ?_
       refine W.seqKeep rfl ?_
       cases h
       exact W.seqRet ((outw_out ret_ne (bout_o ret_ne ret_ne' (fun e => by subst e; exact (fin_ret (by kernel_rfl))))))
      ·replace h := h'
       refine W.seqSkip ?_
       replace h := bindS h
       obtain ⟨x8, hx8, h⟩ := h
       replace h := bindS h
       obtain ⟨x9, hx9, h⟩ := h
       refine W.seqOps (RunR.stat 2 (by kernel_rfl) (RunR.dyn (Step.slcS (s := text1) (m := x8) (a := 0) (b := at_4) (by kernel_rfl) (Bd.none rfl) (Bd.some (k := .i64) (by kernel_rfl)) hx8) (RunR.cons (tab_cons (on := true) (fun _ => lex_place_ok hx9) tab_nil) (Step.call0 (g := 22) (caps := []) (v := .tup [.pv (.int .i64 x9.1), .pv (.int .i64 x9.2)]) (by kernel_rfl) (by kernel_rfl) (by kernel_rfl) (tab_hit (by kernel_rfl)) (by kernel_rfl)) (RunR.all (by kernel_rfl))))) ?_
       replace h := bindS h
       obtain ⟨x10, hx10, h⟩ := h
       replace h := bindS h
       obtain ⟨x11, hx11, h⟩ := h
       refine W.seqOps (RunR.stat 9 (by kernel_rfl) (RunR.dyn (Step.slcS (s := text1) (m := x10) (a := at_4) (b := IntKind.wrap .i64 (at_4 + x7.2.1)) (by kernel_rfl) (Bd.some (k := .i64) (by kernel_rfl)) (Bd.some (k := .i64) (by kernel_rfl)) hx10) (RunR.stat 2 (by kernel_rfl) (RunR.dyn (Step.appendOwnT (k := .loc 5 0) (f := T_api_Token.pv) (l := row5) (m := [(⟨x7.1, x9.1, x9.2, x10⟩ : T_api_Token)]) (by kernel_rfl) (by kernel_rfl) (by kernel_rfl) hx11 (fun _ => rfl) (by kernel_rfl)) (RunR.all (by kernel_rfl)))))) ?_
       refine W.seqOps (RunR.all (by kernel_rfl)) ?_
       replace h := bindS h
       obtain ⟨x12, hx12, h⟩ := h
       replace h := bindS h
       obtain ⟨x13, hx13, h⟩ := h
       refine W.ops (RunR.stat 3 (by kernel_rfl) (RunR.dyn (Step.slcS (s := text1) (m := x12) (a := IntKind.wrap .i64 (at_4 + x7.2.1)) (b := (text1.length : Int)) (by kernel_rfl) (Bd.some (k := .i64) (by kernel_rfl)) (Bd.none rfl) hx12) (RunR.cons (tab_cons (on := true) (fun _ => lex_skip_ok hx13) tab_nil) (Step.call0 (g := 20) (caps := []) (v := .pv (.int .i64 x13)) (by kernel_rfl) (by kernel_rfl) (by kernel_rfl) (tab_hit (by kernel_rfl)) (by kernel_rfl)) (RunR.all (by kernel_rfl))))) ?_
       cases h
       exact (outw_in (by (show _ = _); kernel_rfl))
    ·replace h := h'
     cases h
     exact W.seqExit ((outw_out exit_ne (bout_x (by (show _ = _); kernel_rfl))))
  ·subst hp
   refine W.seqKeep hsj3 ?_
   refine W.seqOps (RunR.all (by kernel_rfl)) ?_
   refine W.keep rfl ?_
   cases h
   exact W.ret ((fin_ret (by kernel_rfl)))
  ·subst hp
   exact Option.some.inj h
def pcashbooklaw14_aliver0 : List GOp := [⟨(some 0), none, .mov (.cst (.bool false))⟩]
def pcashbooklaw14_aliver1 : List GOp := [⟨(some 5), none, .call 0 0 (.cst (.fn 8)) [(.cst (.str [114, 97, 116, 101, 32, 49, 46, 50, 53, 37, 32, 35, 32, 97, 32, 114, 101, 109, 97, 114, 107]))] [] []⟩, ⟨(some 4), none, .mov (.tmp 5)⟩, ⟨(some 6), none, .ext 0 (.tmp 4)⟩, ⟨(some 7), none, .ext 1 (.tmp 4)⟩, ⟨(some 8), none, .ext 2 (.tmp 4)⟩, ⟨(some 1), none, .mov (.tmp 6)⟩, ⟨(some 2), none, .mov (.tmp 7)⟩, ⟨(some 3), none, .mov (.tmp 8)⟩]
def pcashbooklaw14_aliver2 : List GOp := [⟨(some 9), none, .mov (.tmp 3)⟩, ⟨(some 10), none, .bin false .eql (.tmp 9) (.cst (.int .i64 0))⟩, ⟨(some 11), none, .mov (.tmp 10)⟩, ⟨(some 12), (some (11, true)), .mov (.tmp 2)⟩, ⟨(some 13), (some (11, true)), .bin false .eql (.tmp 12) (.cst (.int .i64 0))⟩, ⟨(some 14), none, .pick (.tmp 11) (.tmp 13) (.cst (.bool false))⟩, ⟨(some 15), none, .mov (.tmp 14)⟩, ⟨(some 16), (some (15, true)), .mov (.tmp 1)⟩, ⟨(some 17), (some (15, true)), .len false (.tmp 16)⟩, ⟨(some 18), (some (15, true)), .bin false .eql (.tmp 17) (.cst (.int .i64 3))⟩, ⟨(some 19), none, .pick (.tmp 15) (.tmp 18) (.cst (.bool false))⟩, ⟨(some 20), none, .mov (.tmp 19)⟩, ⟨(some 21), (some (20, true)), .mov (.tmp 1)⟩, ⟨(some 22), (some (20, true)), .idx 4 (.tmp 21) (.cst (.int .i64 1))⟩, ⟨(some 23), (some (20, true)), .load true 4 (.tmp 22)⟩, ⟨(some 24), (some (20, true)), .build [.pv (.int .i64 0), .pv (.int .i64 0), .pv (.int .i64 0), .pv (.str [])] [(0, 1, (.cst (.int .i64 1))), (1, 1, (.cst (.int .i64 1))), (2, 1, (.cst (.int .i64 6))), (3, 1, (.cst (.str [49, 46, 50, 53])))]⟩, ⟨(some 25), (some (20, true)), .eqs false [.i, .i, .i, .s] (.tmp 23) (.tmp 24)⟩, ⟨(some 26), none, .pick (.tmp 20) (.tmp 25) (.cst (.bool false))⟩, ⟨(some 27), none, .mov (.tmp 26)⟩, ⟨(some 28), (some (27, true)), .mov (.tmp 1)⟩, ⟨(some 29), (some (27, true)), .idx 4 (.tmp 28) (.cst (.int .i64 2))⟩, ⟨(some 30), (some (27, true)), .fld 2 (.tmp 29)⟩, ⟨(some 31), (some (27, true)), .load false 1 (.tmp 30)⟩, ⟨(some 32), (some (27, true)), .bin false .eql (.tmp 31) (.cst (.int .i64 10))⟩, ⟨(some 33), none, .pick (.tmp 27) (.tmp 32) (.cst (.bool false))⟩, ⟨(some 0), none, .mov (.tmp 33)⟩]
def pcashbooklaw14_aliveb : AC := (.seq (.ops pcashbooklaw14_aliver0) (.seq (.ops pcashbooklaw14_aliver1) (.seq (.ops pcashbooklaw14_aliver2) (.keep [] [(0, false)] [] [] [] .ret))))
def pcashbooklaw14_alive : Fd := ⟨0, [.tmp 0], [], pcashbooklaw14_aliveb⟩
theorem pcashbooklaw14_alive_ag : agreeF Tryd.prog Tryd.f12 pcashbooklaw14_alive = true := by kernel_rfl
theorem cashbooklaw14_alive_ok {r : Bool} (h : cashbooklaw14_alive = some r) : Contract Tryd.prog 12 [] [] ⟨.pv (.bool r), [], []⟩ := by
 refine contract_fin hm Tryd.func12 pcashbooklaw14_alive_ag (by kernel_rfl) ?_
 unfold cashbooklaw14_alive at h
 refine W.seqOps (RunR.all (by kernel_rfl)) ?_
 replace h := bindS h
 obtain ⟨x1, hx1, h⟩ := h
 refine W.seqOps (RunR.cons (tab_cons (on := true) (fun _ => lex_All_ok hx1) tab_nil) (Step.call0 (g := 8) (caps := []) (v := .tup [.pv (.slice (List.map T_api_Token.pv x1.1)), .pv (.int .i64 x1.2.1), .pv (.int .i64 x1.2.2)]) (by kernel_rfl) (by kernel_rfl) (by kernel_rfl) (tab_hit (by kernel_rfl)) (by kernel_rfl)) (RunR.all (by kernel_rfl))) ?_
 replace h := bindS h
 obtain ⟨c2, hc2, h⟩ := h
 replace h := bindS h
 obtain ⟨c3, hc3, h⟩ := h
 replace h := bindS h
 obtain ⟨c4, hc4, h⟩ := h
 replace h := bindS h
 obtain ⟨x5, hx5, h⟩ := h
 replace h := bindS h
 obtain ⟨c6, hc6, h⟩ := h
 replace h := bindS h
 obtain ⟨x7, hx7, h⟩ := h
 refine W.seqOps (RunR.stat 2 (by kernel_rfl) (RunR.dyn (Step.name (f := eBool) (e := (x1.2.2 == 0)) (c := c2) (by kernel_rfl) hc2) (RunR.puts 3 [(14, .pv (.bool (c2 && (x1.2.1 == 0)))), (13, (bif c2 then (.pv (.bool (x1.2.1 == 0))) else (.tup []))), (12, (bif c2 then (.pv (.int .i64 x1.2.1)) else (.tup [])))] (by cases c2 <;> kernel_rfl) (RunR.dyn (Step.name (f := eBool) (e := (c2 && (x1.2.1 == 0))) (c := c3) (by kernel_rfl) hc3) (RunR.puts 1 [(16, (bif c3 then (.pv (.slice (List.map T_api_Token.pv x1.1))) else (.tup [])))] (by cases c3 <;> kernel_rfl) (RunR.dyn (Step.gdG c3 (by kernel_rfl) (by
    cases c3
    ·exact .inl ⟨by kernel_rfl, by kernel_rfl⟩
    ·exact .inr ⟨by kernel_rfl, by kernel_rfl, Step.lenT (f := T_api_Token.pv) (l := x1.1) (by kernel_rfl)⟩)) (RunR.puts 2 [(19, .pv (.bool (c3 && ((x1.1.length : Int) == 3)))), (18, (bif c3 then (.pv (.bool ((x1.1.length : Int) == 3))) else (.tup [])))] (by cases c3 <;> kernel_rfl) (RunR.dyn (Step.name (f := eBool) (e := (c3 && ((x1.1.length : Int) == 3))) (c := c4) (by kernel_rfl) hc4) (RunR.puts 1 [(21, (bif c4 then (.pv (.slice (List.map T_api_Token.pv x1.1))) else (.tup [])))] (by cases c4 <;> kernel_rfl) (RunR.dyn (Step.gdG c4 (by kernel_rfl) (by
    cases c4
    ·exact .inl ⟨by kernel_rfl, by kernel_rfl⟩
    ·exact .inr ⟨by kernel_rfl, by kernel_rfl, Step.idxT (f := T_api_Token.pv) (l := x1.1) (n := 1) (e := x5) (k := .i64) (by kernel_rfl) (by kernel_rfl) hx5 (by kernel_rfl)⟩)) (RunR.puts 4 [(26, .pv (.bool (c4 && (T_api_Token.same x5 (⟨1, 1, 6, [49, 46, 50, 53]⟩ : T_api_Token))))), (25, (bif c4 then (.pv (.bool (T_api_Token.same x5 (⟨1, 1, 6, [49, 46, 50, 53]⟩ : T_api_Token)))) else (.tup []))), (24, (bif c4 then (.pv (.agg [.int .i64 1, .int .i64 1, .int .i64 6, .str [49, 46, 50, 53]])) else (.tup []))), (23, (bif c4 then (.pv (T_api_Token.pv x5)) else (.tup [])))] (by cases c4 <;> kernel_rfl) (RunR.dyn (Step.name (f := eBool) (e := (c4 && (T_api_Token.same x5 (⟨1, 1, 6, [49, 46, 50, 53]⟩ : T_api_Token)))) (c := c6) (by kernel_rfl) hc6) (RunR.puts 1 [(28, (bif c6 then (.pv (.slice (List.map T_api_Token.pv x1.1))) else (.tup [])))] (by cases c6 <;> kernel_rfl) (RunR.dyn (Step.gdG c6 (by kernel_rfl) (by
    cases c6
    ·exact .inl ⟨by kernel_rfl, by kernel_rfl⟩
    ·exact .inr ⟨by kernel_rfl, by kernel_rfl, Step.idxT (f := T_api_Token.pv) (l := x1.1) (n := 2) (e := x7) (k := .i64) (by kernel_rfl) (by kernel_rfl) hx7 (by kernel_rfl)⟩)) (RunR.puts 4 [(33, .pv (.bool (c6 && (x7.f_Col == 10)))), (32, (bif c6 then (.pv (.bool (x7.f_Col == 10))) else (.tup []))), (31, (bif c6 then (.pv (.int .i64 x7.f_Col)) else (.tup []))), (30, (bif c6 then (.ipv (T_api_Token.pv x7) 2) else (.tup [])))] (by cases c6 <;> kernel_rfl) (RunR.all (by kernel_rfl))))))))))))))))) ?_
 refine W.keep rfl ?_
 cases h
 exact W.ret ((fin_ret (by kernel_rfl)))
def pcashbookref14_Liker0 : List GOp := [⟨(some 4), none, .mov (.cst (.bool false))⟩]
def pcashbookref14_Liker1 : List GOp := [⟨(some 6), none, .mov (.tmp 0)⟩, ⟨(some 7), none, .len false (.tmp 6)⟩, ⟨(some 8), none, .mov (.tmp 1)⟩, ⟨(some 9), none, .len false (.tmp 8)⟩, ⟨(some 10), none, .bin false .neq (.tmp 7) (.tmp 9)⟩]
def pcashbookref14_Liker2 : List GOp := [⟨(some 4), none, .mov (.cst (.bool false))⟩]
def pcashbookref14_Liker3 : List GOp := [⟨(some 11), none, .mov (.tmp 0)⟩, ⟨(some 12), none, .len false (.tmp 11)⟩, ⟨(some 13), none, .mov (.cst (.int .i64 0))⟩]
def pcashbookref14_Liker4 : List GOp := [⟨(some 14), none, .bin false .lss (.tmp 13) (.tmp 12)⟩]
def pcashbookref14_Liker5 : List GOp := [⟨(some 15), none, .mov (.tmp 13)⟩, ⟨(some 5), none, .mov (.tmp 15)⟩]
def pcashbookref14_Liker6 : List GOp := [⟨(some 16), none, .mov (.tmp 0)⟩, ⟨(some 17), none, .mov (.tmp 5)⟩, ⟨(some 18), none, .idx 4 (.tmp 16) (.tmp 17)⟩, ⟨(some 19), none, .fld 0 (.tmp 18)⟩, ⟨(some 20), none, .load false 1 (.tmp 19)⟩, ⟨(some 21), none, .mov (.tmp 1)⟩, ⟨(some 22), none, .mov (.tmp 5)⟩, ⟨(some 23), none, .idx 4 (.tmp 21) (.tmp 22)⟩, ⟨(some 24), none, .fld 0 (.tmp 23)⟩, ⟨(some 25), none, .load false 1 (.tmp 24)⟩, ⟨(some 26), none, .bin false .neq (.tmp 20) (.tmp 25)⟩, ⟨(some 27), none, .mov (.tmp 26)⟩, ⟨(some 28), (some (27, false)), .mov (.tmp 0)⟩, ⟨(some 29), (some (27, false)), .mov (.tmp 5)⟩, ⟨(some 30), (some (27, false)), .idx 4 (.tmp 28) (.tmp 29)⟩, ⟨(some 31), (some (27, false)), .fld 3 (.tmp 30)⟩, ⟨(some 32), (some (27, false)), .load false 1 (.tmp 31)⟩, ⟨(some 33), (some (27, false)), .mov (.tmp 1)⟩, ⟨(some 34), (some (27, false)), .mov (.tmp 5)⟩, ⟨(some 35), (some (27, false)), .idx 4 (.tmp 33) (.tmp 34)⟩, ⟨(some 36), (some (27, false)), .fld 3 (.tmp 35)⟩, ⟨(some 37), (some (27, false)), .load false 1 (.tmp 36)⟩, ⟨(some 38), (some (27, false)), .bin false .neq (.tmp 32) (.tmp 37)⟩, ⟨(some 39), none, .pick (.tmp 27) (.cst (.bool true)) (.tmp 38)⟩]
def pcashbookref14_Liker7 : List GOp := [⟨(some 4), none, .mov (.cst (.bool false))⟩]
def pcashbookref14_Liker8 : List GOp := [⟨(some 40), none, .bin false .add (.tmp 13) (.cst (.int .i64 1))⟩, ⟨(some 13), none, .mov (.tmp 40)⟩]
def pcashbookref14_Likel9 : AC := (.keep [] [(0, false), (1, false), (12, false), (13, false)] [] [] [] (.seq (.ops pcashbookref14_Liker4) (.seq (.cond (.tmp 14) .skip (.exit 0)) (.seq (.pass 1 (.seq (.ops pcashbookref14_Liker5) (.seq (.draw [] pcashbookref14_Liker6) (.cond (.tmp 39) (.seq (.ops pcashbookref14_Liker7) (.keep [] [(4, false)] [] [] [] .ret)) .skip)))) (.ops pcashbookref14_Liker8)))))
def pcashbookref14_Liker10 : List GOp := [⟨(some 4), none, .mov (.cst (.bool true))⟩]
def pcashbookref14_Likeb : AC := (.seq (.ops pcashbookref14_Liker0) (.seq (.seq (.ops pcashbookref14_Liker1) (.cond (.tmp 10) (.seq (.ops pcashbookref14_Liker2) (.keep [] [(4, false)] [] [] [] .ret)) .skip)) (.seq (.seq (.ops pcashbookref14_Liker3) (.block 0 (.loop [0, 1, 12, 13] [] pcashbookref14_Likel9))) (.seq (.keep [] [] [] [] [] (.ops pcashbookref14_Liker10)) (.keep [] [(4, false)] [] [] [] .ret)))))
def pcashbookref14_Like : Fd := ⟨2, [.tmp 4], [], pcashbookref14_Likeb⟩
theorem pcashbookref14_Like_ag : agreeF Tryd.prog Tryd.f19 pcashbookref14_Like = true := by kernel_rfl
theorem cashbookref14_Like_ok {a1 : List T_api_Token} {b2 : List T_api_Token} {r : Bool} (h : cashbookref14_Like a1 b2 = some r) : Contract Tryd.prog 19 [.pv (.slice (List.map T_api_Token.pv a1)), .pv (.slice (List.map T_api_Token.pv b2))] [] ⟨.pv (.bool r), [], []⟩ := by
 refine contract_fin hm Tryd.func19 pcashbookref14_Like_ag (by kernel_rfl) ?_
 unfold cashbookref14_Like at h
 refine W.seqOps (RunR.all (by kernel_rfl)) ?_
 refine W.assoc ?_
 refine W.seqOps (RunR.stat 1 (by kernel_rfl) (RunR.dyn (Step.lenT (f := T_api_Token.pv) (l := a1) (by kernel_rfl)) (RunR.stat 1 (by kernel_rfl) (RunR.dyn (Step.lenT (f := T_api_Token.pv) (l := b2) (by kernel_rfl)) (RunR.all (by kernel_rfl)))))) ?_
 refine W.seqCond (t := ((a1.length : Int) != (b2.length : Int))) (by kernel_rfl) h (fun hc h' => ?_) (fun hc h' => ?_)
 ·replace h := h'
  refine W.assoc ?_
  refine W.seqOps (RunR.all (by kernel_rfl)) ?_
  refine W.seqKeep rfl ?_
  cases h
  exact W.seqRet ((fin_ret (by kernel_rfl)))
 ·replace h := h'
  refine W.seqSkip ?_
  refine W.assoc ?_
  refine W.seqOps (RunR.stat 1 (by kernel_rfl) (RunR.dyn (Step.lenT (f := T_api_Token.pv) (l := a1) (by kernel_rfl)) (RunR.all (by kernel_rfl)))) ?_
  replace h := bindS h
  obtain ⟨j3, hj3, h⟩ := h
  refine W.joinOut (j := j3) (o := r) (fun p σ => σ.tidy [] [] [] [] [] = ⟨[], []⟩) ?_ (fun p σj3 hp hsj3 => ?_) (fun p hp => ?_)
  ·refine W.blockLoopO (fun q σ => ((σ.forget [0, 1, 12, 13]).killAll []).tidy [] [(0, false), (1, false), (12, false), (13, false)] [] [] [] = ⟨[(0, .pv (.slice (List.map T_api_Token.pv a1))), (1, .pv (.slice (List.map T_api_Token.pv b2))), (12, .pv (.int .i64 (a1.length : Int))), (13, .pv (.int .i64 q))], []⟩) hj3 ?_ ?_
   ·show _ = _
    kernel_rfl
   ·intro x4 σj3 oj3 hJj3 h
    refine W.keep hJj3 ?_
    refine W.seqOps (RunR.all (by kernel_rfl)) ?_
    refine W.seqCond (t := decide (x4 < (a1.length : Int))) (by kernel_rfl) h (fun hc h' => ?_) (fun hc h' => ?_)
    ·replace h := h'
     refine W.seqSkip ?_
     refine W.seqPass ?_
     refine W.assoc ?_
     refine W.seqOps (RunR.all (by kernel_rfl)) ?_
     refine W.assoc ?_
     replace h := bindS h
     obtain ⟨x5, hx5, h⟩ := h
     replace h := bindS h
     obtain ⟨x6, hx6, h⟩ := h
     replace h := bindS h
     obtain ⟨c7, hc7, h⟩ := h
     replace h := bindS h
     obtain ⟨x8, hx8, h⟩ := h
     replace h := bindS h
     obtain ⟨x9, hx9, h⟩ := h
     refine W.seqDraw tab_nil (Run.stat 2 (by kernel_rfl) (Run.dyn (Step.idxT (f := T_api_Token.pv) (l := a1) (n := x4) (e := x5) (k := .i64) (by kernel_rfl) (by kernel_rfl) hx5 (by kernel_rfl)) (Run.stat 4 (by kernel_rfl) (Run.dyn (Step.idxT (f := T_api_Token.pv) (l := b2) (n := x4) (e := x6) (k := .i64) (by kernel_rfl) (by kernel_rfl) hx6 (by kernel_rfl)) (Run.stat 3 (by kernel_rfl) (Run.dyn (Step.name (f := eBool) (e := (x5.f_Kind != x6.f_Kind)) (c := c7) (by kernel_rfl) hc7) (Run.puts 2 [(29, (bif !c7 then (.pv (.int .i64 x4)) else (.tup []))), (28, (bif !c7 then (.pv (.slice (List.map T_api_Token.pv a1))) else (.tup [])))] (by cases c7 <;> kernel_rfl) (Run.dyn (Step.gdG (!c7) (by kernel_rfl) (by
        cases c7
        ·exact .inr ⟨by kernel_rfl, by kernel_rfl, Step.idxT (f := T_api_Token.pv) (l := a1) (n := x4) (e := x8) (k := .i64) (by kernel_rfl) (by kernel_rfl) hx8 (by kernel_rfl)⟩
        ·exact .inl ⟨by kernel_rfl, by kernel_rfl⟩)) (Run.puts 4 [(34, (bif !c7 then (.pv (.int .i64 x4)) else (.tup []))), (33, (bif !c7 then (.pv (.slice (List.map T_api_Token.pv b2))) else (.tup []))), (32, (bif !c7 then (.pv (.str x8.f_Text)) else (.tup []))), (31, (bif !c7 then (.ipv (T_api_Token.pv x8) 3) else (.tup [])))] (by cases c7 <;> kernel_rfl) (Run.dyn (Step.gdG (!c7) (by kernel_rfl) (by
        cases c7
        ·exact .inr ⟨by kernel_rfl, by kernel_rfl, Step.idxT (f := T_api_Token.pv) (l := b2) (n := x4) (e := x9) (k := .i64) (by kernel_rfl) (by kernel_rfl) hx9 (by kernel_rfl)⟩
        ·exact .inl ⟨by kernel_rfl, by kernel_rfl⟩)) (Run.puts 4 [(39, .pv (.bool (c7 || (!(x8.f_Text == x9.f_Text))))), (38, (bif !c7 then (.pv (.bool (!(x8.f_Text == x9.f_Text)))) else (.tup []))), (37, (bif !c7 then (.pv (.str x9.f_Text)) else (.tup []))), (36, (bif !c7 then (.ipv (T_api_Token.pv x9) 3) else (.tup [])))] (by cases c7 <;> kernel_rfl) ((Run.nil))))))))))))) ?_
     refine W.seqCond (t := (c7 || (!(x8.f_Text == x9.f_Text)))) (by kernel_rfl) h (fun hc h' => ?_) (fun hc h' => ?_)
     ·replace h := h'
      refine W.assoc ?_
      refine W.seqOps (RunR.all (by kernel_rfl)) ?_
      refine W.seqKeep rfl ?_
      cases h
      exact W.seqRet ((outw_out ret_ne (bout_o ret_ne ret_ne' (fun e => by subst e; exact (fin_ret (by kernel_rfl))))))
     ·replace h := h'
      refine W.seqSkip ?_
      refine W.ops (RunR.all (by kernel_rfl)) ?_
      cases h
      exact (outw_in (by (show _ = _); kernel_rfl))
    ·replace h := h'
     cases h
     exact W.seqExit ((outw_out exit_ne (bout_x (by (show _ = _); kernel_rfl))))
  ·subst hp
   obtain ⟨⟩ := p
   refine W.seqKeep hsj3 ?_
   refine W.seqOps (RunR.all (by kernel_rfl)) ?_
   refine W.keep rfl ?_
   cases h
   exact W.ret ((fin_ret (by kernel_rfl)))
  ·subst hp
   exact Option.some.inj h
def pcashbooklaw14_LexBlanksr0 : List GOp := [⟨(some 8), none, .mov (.cst (.bool false))⟩]
def pcashbooklaw14_LexBlanksr1 : List GOp := [⟨(some 23), none, .mov (.tmp 0)⟩, ⟨(some 24), none, .call 0 0 (.cst (.fn 15)) [(.tmp 23)] [] []⟩, ⟨(some 25), none, .mov (.tmp 3)⟩, ⟨(some 26), none, .mov (.tmp 3)⟩, ⟨(some 27), none, .len true (.tmp 26)⟩, ⟨(some 28), none, .mm false (.tmp 27) [(.cst (.int .i64 30))]⟩, ⟨(some 29), none, .slc true 0 (.tmp 25) none (some (.tmp 28))⟩, ⟨(some 0), none, .mov (.tmp 24)⟩, ⟨(some 3), none, .mov (.tmp 29)⟩]
def pcashbooklaw14_LexBlanksr2 : List GOp := [⟨(some 31), none, .mov (.tmp 0)⟩, ⟨(some 32), none, .call 0 0 (.cst (.fn 16)) [(.tmp 31)] [] []⟩, ⟨(some 30), none, .mov (.tmp 32)⟩, ⟨(some 33), none, .ext 0 (.tmp 30)⟩, ⟨(some 34), none, .ext 1 (.tmp 30)⟩, ⟨(some 9), none, .mov (.tmp 33)⟩, ⟨(some 10), none, .mov (.tmp 34)⟩]
def pcashbooklaw14_LexBlanksr3 : List GOp := [⟨(some 35), none, .mov (.tmp 10)⟩, ⟨(some 36), none, .bin false .neq (.tmp 35) (.cst (.int .i64 0))⟩]
def pcashbooklaw14_LexBlanksr4 : List GOp := [⟨(some 37), none, .call 0 0 (.cst (.fn 12)) [] [] []⟩, ⟨(some 38), none, .mov (.tmp 37)⟩, ⟨(some 39), (some (38, true)), .mov (.tmp 9)⟩, ⟨(some 40), (some (38, true)), .bin false .eql (.tmp 39) (.cst (.str []))⟩, ⟨(some 41), none, .pick (.tmp 38) (.tmp 40) (.cst (.bool false))⟩, ⟨(some 8), none, .mov (.tmp 41)⟩]
def pcashbooklaw14_LexBlanksr5 : List GOp := [⟨(some 42), none, .mov (.tmp 1)⟩, ⟨(some 43), none, .mov (.tmp 0)⟩, ⟨(some 44), none, .len false (.tmp 43)⟩, ⟨(some 45), none, .bin false .add (.tmp 44) (.cst (.int .i64 1))⟩, ⟨(some 46), none, .bin false .rem (.tmp 42) (.tmp 45)⟩, ⟨(some 47), none, .mov (.tmp 0)⟩, ⟨(some 48), none, .len false (.tmp 47)⟩, ⟨(some 49), none, .bin false .add (.tmp 46) (.tmp 48)⟩, ⟨(some 50), none, .bin false .add (.tmp 49) (.cst (.int .i64 1))⟩, ⟨(some 51), none, .mov (.tmp 0)⟩, ⟨(some 52), none, .len false (.tmp 51)⟩, ⟨(some 53), none, .bin false .add (.tmp 52) (.cst (.int .i64 1))⟩, ⟨(some 54), none, .bin false .rem (.tmp 50) (.tmp 53)⟩, ⟨(some 1), none, .mov (.tmp 54)⟩]
def pcashbooklaw14_LexBlanksr6 : List GOp := [⟨(some 56), none, .mov (.tmp 0)⟩, ⟨(some 57), none, .mov (.tmp 1)⟩, ⟨(some 58), none, .slc false 4 (.tmp 56) none (some (.tmp 57))⟩, ⟨(some 59), none, .call 0 0 (.cst (.fn 16)) [(.tmp 58)] [] []⟩, ⟨(some 55), none, .mov (.tmp 59)⟩, ⟨(some 60), none, .ext 0 (.tmp 55)⟩, ⟨(some 61), none, .ext 1 (.tmp 55)⟩, ⟨(some 11), none, .mov (.tmp 60)⟩, ⟨(some 12), none, .mov (.tmp 61)⟩]
def pcashbooklaw14_LexBlanksr7 : List GOp := [⟨(some 63), none, .mov (.tmp 0)⟩, ⟨(some 64), none, .mov (.tmp 1)⟩, ⟨(some 65), none, .slc false 4 (.tmp 63) (some (.tmp 64)) none⟩, ⟨(some 66), none, .call 0 0 (.cst (.fn 16)) [(.tmp 65)] [] []⟩, ⟨(some 62), none, .mov (.tmp 66)⟩, ⟨(some 67), none, .ext 0 (.tmp 62)⟩, ⟨(some 68), none, .ext 1 (.tmp 62)⟩, ⟨(some 13), none, .mov (.tmp 67)⟩, ⟨(some 14), none, .mov (.tmp 68)⟩]
def pcashbooklaw14_LexBlanksr8 : List GOp := [⟨(some 15), none, .mov (.cst (.str [32]))⟩]
def pcashbooklaw14_LexBlanksr9 : List GOp := [⟨(some 69), none, .mov (.tmp 2)⟩, ⟨(some 70), none, .mov (.tmp 2)⟩, ⟨(some 71), none, .len false (.tmp 70)⟩, ⟨(some 72), none, .mm false (.tmp 71) [(.cst (.int .i64 10))]⟩, ⟨(some 73), none, .slc false 1 (.tmp 69) none (some (.tmp 72))⟩, ⟨(some 74), none, .len false (.tmp 73)⟩, ⟨(some 75), none, .mov (.cst (.int .i64 0))⟩]
def pcashbooklaw14_LexBlanksr10 : List GOp := [⟨(some 76), none, .bin false .lss (.tmp 75) (.tmp 74)⟩]
def pcashbooklaw14_LexBlanksr11 : List GOp := [⟨(some 77), none, .idx 1 (.tmp 73) (.tmp 75)⟩, ⟨(some 78), none, .load false 1 (.tmp 77)⟩, ⟨(some 17), none, .mov (.tmp 78)⟩]
def pcashbooklaw14_LexBlanksr12 : List GOp := [⟨(some 79), none, .mov (.tmp 15)⟩, ⟨(some 80), none, .mov (.tmp 17)⟩, ⟨(some 81), none, .bin false .rem (.tmp 80) (.cst (.int .u8 3))⟩, ⟨(some 82), none, .sidx (.cst (.str [32, 9, 10])) (.tmp 81)⟩, ⟨(some 83), none, .lit false 1 [(.tmp 82)]⟩, ⟨(some 84), none, .b2s (.tmp 83)⟩, ⟨(some 85), none, .bin false .add (.tmp 79) (.tmp 84)⟩, ⟨(some 15), none, .mov (.tmp 85)⟩]
def pcashbooklaw14_LexBlanksr13 : List GOp := [⟨(some 86), none, .bin false .add (.tmp 75) (.cst (.int .i64 1))⟩, ⟨(some 75), none, .mov (.tmp 86)⟩]
def pcashbooklaw14_LexBlanksl14 : AC := (.keep [] [(0, false), (3, false), (11, false), (12, false), (13, false), (14, false), (15, false), (73, false), (74, false), (75, false)] [] [] [] (.seq (.ops pcashbooklaw14_LexBlanksr10) (.seq (.cond (.tmp 76) .skip (.exit 0)) (.seq (.pass 1 (.seq (.ops pcashbooklaw14_LexBlanksr11) (.ops pcashbooklaw14_LexBlanksr12))) (.ops pcashbooklaw14_LexBlanksr13)))))
def pcashbooklaw14_LexBlanksr15 : List GOp := [⟨(some 18), none, .mov (.cst (.str []))⟩]
def pcashbooklaw14_LexBlanksr16 : List GOp := [⟨(some 87), none, .mov (.tmp 3)⟩, ⟨(some 88), none, .len true (.tmp 87)⟩, ⟨(some 89), none, .mov (.cst (.int .i64 0))⟩]
def pcashbooklaw14_LexBlanksr17 : List GOp := [⟨(some 90), none, .bin false .lss (.tmp 89) (.tmp 88)⟩]
def pcashbooklaw14_LexBlanksr18 : List GOp := [⟨(some 91), none, .mov (.tmp 89)⟩, ⟨(some 19), none, .mov (.tmp 91)⟩]
def pcashbooklaw14_LexBlanksr19 : List GOp := [⟨(some 92), none, .mov (.tmp 3)⟩, ⟨(some 93), none, .mov (.tmp 19)⟩, ⟨(some 94), none, .sidx (.tmp 92) (.tmp 93)⟩, ⟨(some 95), none, .bin false .neq (.tmp 94) (.cst (.int .u8 10))⟩]
def pcashbooklaw14_LexBlanksr20 : List GOp := [⟨(some 96), none, .mov (.tmp 18)⟩, ⟨(some 97), none, .mov (.tmp 3)⟩, ⟨(some 98), none, .mov (.tmp 19)⟩, ⟨(some 99), none, .mov (.tmp 19)⟩, ⟨(some 100), none, .bin false .add (.tmp 99) (.cst (.int .i64 1))⟩, ⟨(some 101), none, .slc true 0 (.tmp 97) (some (.tmp 98)) (some (.tmp 100))⟩, ⟨(some 102), none, .bin false .add (.tmp 96) (.tmp 101)⟩, ⟨(some 18), none, .mov (.tmp 102)⟩]
def pcashbooklaw14_LexBlanksr21 : List GOp := [⟨(some 103), none, .bin false .add (.tmp 89) (.cst (.int .i64 1))⟩, ⟨(some 89), none, .mov (.tmp 103)⟩]
def pcashbooklaw14_LexBlanksl22 : AC := (.keep [] [(0, false), (3, false), (11, false), (12, false), (13, false), (14, false), (15, false), (18, false), (88, false), (89, false)] [] [] [] (.seq (.ops pcashbooklaw14_LexBlanksr17) (.seq (.cond (.tmp 90) .skip (.exit 2)) (.seq (.pass 3 (.seq (.ops pcashbooklaw14_LexBlanksr18) (.seq (.ops pcashbooklaw14_LexBlanksr19) (.cond (.tmp 95) (.ops pcashbooklaw14_LexBlanksr20) .skip)))) (.keep [] [(0, false), (3, false), (11, false), (12, false), (13, false), (14, false), (15, false), (18, false), (88, false), (89, false)] [] [] [] (.ops pcashbooklaw14_LexBlanksr21))))))
def pcashbooklaw14_LexBlanksr23 : List GOp := [⟨(some 105), none, .mov (.tmp 11)⟩, ⟨(some 106), none, .mov (.tmp 15)⟩, ⟨(some 107), none, .bin false .add (.tmp 105) (.tmp 106)⟩, ⟨(some 108), none, .bin false .add (.tmp 107) (.cst (.str [35]))⟩, ⟨(some 109), none, .mov (.tmp 18)⟩, ⟨(some 110), none, .bin false .add (.tmp 108) (.tmp 109)⟩, ⟨(some 111), none, .bin false .add (.tmp 110) (.cst (.str [10]))⟩, ⟨(some 112), none, .mov (.tmp 13)⟩, ⟨(some 113), none, .bin false .add (.tmp 111) (.tmp 112)⟩, ⟨(some 114), none, .call 0 0 (.cst (.fn 8)) [(.tmp 113)] [] []⟩, ⟨(some 104), none, .mov (.tmp 114)⟩, ⟨(some 115), none, .ext 0 (.tmp 104)⟩, ⟨(some 116), none, .ext 1 (.tmp 104)⟩, ⟨(some 117), none, .ext 2 (.tmp 104)⟩, ⟨(some 20), none, .mov (.tmp 115)⟩, ⟨(some 21), none, .mov (.tmp 116)⟩, ⟨(some 22), none, .mov (.tmp 117)⟩]
def pcashbooklaw14_LexBlanksr24 : List GOp := [⟨(some 118), none, .call 0 0 (.cst (.fn 12)) [] [] []⟩, ⟨(some 119), none, .mov (.tmp 118)⟩, ⟨(some 120), (some (119, true)), .mov (.tmp 12)⟩, ⟨(some 121), (some (119, true)), .bin false .eql (.tmp 120) (.cst (.int .i64 0))⟩, ⟨(some 122), none, .pick (.tmp 119) (.tmp 121) (.cst (.bool false))⟩, ⟨(some 123), none, .mov (.tmp 122)⟩, ⟨(some 124), (some (123, true)), .mov (.tmp 14)⟩, ⟨(some 125), (some (123, true)), .bin false .eql (.tmp 124) (.cst (.int .i64 0))⟩, ⟨(some 126), none, .pick (.tmp 123) (.tmp 125) (.cst (.bool false))⟩, ⟨(some 127), none, .mov (.tmp 126)⟩, ⟨(some 128), (some (127, true)), .mov (.tmp 22)⟩, ⟨(some 129), (some (127, true)), .bin false .eql (.tmp 128) (.cst (.int .i64 0))⟩, ⟨(some 130), none, .pick (.tmp 127) (.tmp 129) (.cst (.bool false))⟩, ⟨(some 131), none, .mov (.tmp 130)⟩, ⟨(some 132), (some (131, true)), .mov (.tmp 21)⟩, ⟨(some 133), (some (131, true)), .bin false .eql (.tmp 132) (.cst (.int .i64 0))⟩, ⟨(some 134), none, .pick (.tmp 131) (.tmp 133) (.cst (.bool false))⟩, ⟨(some 135), none, .mov (.tmp 134)⟩, ⟨(some 136), (some (135, true)), .mov (.tmp 0)⟩, ⟨(some 137), (some (135, true)), .mov (.tmp 20)⟩, ⟨(some 138), (some (135, true)), .call 0 0 (.cst (.fn 19)) [(.tmp 136), (.tmp 137)] [] []⟩, ⟨(some 139), none, .pick (.tmp 135) (.tmp 138) (.cst (.bool false))⟩, ⟨(some 8), none, .mov (.tmp 139)⟩]
def pcashbooklaw14_LexBlanksb : AC := (.seq (.ops pcashbooklaw14_LexBlanksr0) (.seq (.draw [] pcashbooklaw14_LexBlanksr1) (.seq (.ops pcashbooklaw14_LexBlanksr2) (.seq (.seq (.ops pcashbooklaw14_LexBlanksr3) (.cond (.tmp 36) (.seq (.ops pcashbooklaw14_LexBlanksr4) (.keep [] [(8, false)] [] [] [] .ret)) .skip)) (.seq (.ops pcashbooklaw14_LexBlanksr5) (.seq (.ops pcashbooklaw14_LexBlanksr6) (.seq (.ops pcashbooklaw14_LexBlanksr7) (.seq (.ops pcashbooklaw14_LexBlanksr8) (.seq (.seq (.ops pcashbooklaw14_LexBlanksr9) (.block 0 (.loop [0, 3, 11, 12, 13, 14, 15, 73, 74, 75] [] pcashbooklaw14_LexBlanksl14))) (.seq (.keep [] [(0, false), (3, false), (11, false), (12, false), (13, false), (14, false), (15, false)] [] [] [] (.ops pcashbooklaw14_LexBlanksr15)) (.seq (.seq (.ops pcashbooklaw14_LexBlanksr16) (.block 2 (.loop [0, 3, 11, 12, 13, 14, 15, 18, 88, 89] [] pcashbooklaw14_LexBlanksl22))) (.seq (.keep [] [(0, false), (11, false), (12, false), (13, false), (14, false), (15, false), (18, false)] [] [] [] (.ops pcashbooklaw14_LexBlanksr23)) (.seq (.ops pcashbooklaw14_LexBlanksr24) (.keep [] [(8, false)] [] [] [] .ret))))))))))))))
def pcashbooklaw14_LexBlanks : Fd := ⟨4, [.tmp 8], [], pcashbooklaw14_LexBlanksb⟩
theorem pcashbooklaw14_LexBlanks_ag : agreeF Tryd.prog Tryd.f7 pcashbooklaw14_LexBlanks = true := by kernel_rfl
theorem cashbooklaw14_LexBlanks_ok {l1 : List T_api_Token} {k2 : Int} {some3 : List Int} {remark4 : List UInt8} {r : Bool} (h : cashbooklaw14_LexBlanks l1 k2 some3 remark4 = some r) : Contract Tryd.prog 7 [.pv (.slice (List.map T_api_Token.pv l1)), .pv (.int .i64 k2), .pv (.slice (List.map (eInt .u8) some3)), .pv (.str remark4)] [] ⟨.pv (.bool r), [], []⟩ := by
 refine contract_fin hm Tryd.func7 pcashbooklaw14_LexBlanks_ag (by kernel_rfl) ?_
 unfold cashbooklaw14_LexBlanks at h
 refine W.seqOps (RunR.all (by kernel_rfl)) ?_
 replace h := bindS h
 obtain ⟨x5, hx5, h⟩ := h
 replace h := bindS h
 obtain ⟨x6, hx6, h⟩ := h
 refine W.seqDraw (tab_cons (on := true) (fun _ => cashbooklaw14_few_ok hx5) tab_nil) (Run.stat 1 (by kernel_rfl) (Run.dyn (Step.call0 (g := 15) (caps := []) (v := .pv (.slice (List.map T_api_Token.pv x5))) (by kernel_rfl) (by kernel_rfl) (by kernel_rfl) (tab_hit (by kernel_rfl)) (by kernel_rfl)) (Run.stat 4 (by kernel_rfl) (Run.dyn (Step.slcS (s := remark4) (m := x6) (a := 0) (b := (if 30 < (remark4.length : Int) then 30 else (remark4.length : Int))) (by kernel_rfl) (Bd.none rfl) (Bd.some (k := .i64) (by kernel_rfl)) hx6) (Run.all (by kernel_rfl)))))) ?_
 replace h := bindS h
 obtain ⟨x7, hx7, h⟩ := h
 refine W.seqOps (RunR.stat 1 (by kernel_rfl) (RunR.cons (tab_cons (on := true) (fun _ => lex_Join_ok hx7) tab_nil) (Step.call0 (g := 16) (caps := []) (v := .tup [.pv (.str x7.1), .pv (.int .i64 x7.2)]) (by kernel_rfl) (by kernel_rfl) (by kernel_rfl) (tab_hit (by kernel_rfl)) (by kernel_rfl)) (RunR.all (by kernel_rfl)))) ?_
 refine W.assoc ?_
 refine W.seqOps (RunR.all (by kernel_rfl)) ?_
 refine W.seqCond (t := (x7.2 != 0)) (by kernel_rfl) h (fun hc h' => ?_) (fun hc h' => ?_)
 ·replace h := h'
  refine W.assoc ?_
  replace h := bindS h
  obtain ⟨x8, hx8, h⟩ := h
  refine W.seqOps (RunR.cons (tab_cons (on := true) (fun _ => cashbooklaw14_alive_ok hx8) tab_nil) (Step.call0 (g := 12) (caps := []) (v := .pv (.bool x8)) (by kernel_rfl) (by kernel_rfl) (by kernel_rfl) (tab_hit (by kernel_rfl)) (by kernel_rfl)) (RunR.stat 1 (by kernel_rfl) (RunR.puts 3 [(41, .pv (.bool (x8 && (x7.1 == [])))), (40, (bif x8 then (.pv (.bool (x7.1 == []))) else (.tup []))), (39, (bif x8 then (.pv (.str x7.1)) else (.tup [])))] (by cases x8 <;> kernel_rfl) (RunR.all (by kernel_rfl))))) ?_
  refine W.seqKeep rfl ?_
  cases h
  exact W.seqRet ((fin_ret (by kernel_rfl)))
 ·replace h := h'
  refine W.seqSkip ?_
  replace h := bindS h
  obtain ⟨x9, hx9, h⟩ := h
  replace h := bindS h
  obtain ⟨x10, hx10, h⟩ := h
  refine W.seqOps (RunR.stat 2 (by kernel_rfl) (RunR.dyn (Step.lenT (f := T_api_Token.pv) (l := x5) (by kernel_rfl)) (RunR.stat 1 (by kernel_rfl) (RunR.dyn (Step.rem (k := .i64) (a := k2) (b := IntKind.wrap .i64 ((x5.length : Int) + 1)) (m := x9) (by kernel_rfl) (by kernel_rfl) hx9) (RunR.stat 1 (by kernel_rfl) (RunR.dyn (Step.lenT (f := T_api_Token.pv) (l := x5) (by kernel_rfl)) (RunR.stat 3 (by kernel_rfl) (RunR.dyn (Step.lenT (f := T_api_Token.pv) (l := x5) (by kernel_rfl)) (RunR.stat 1 (by kernel_rfl) (RunR.dyn (Step.rem (k := .i64) (a := IntKind.wrap .i64 ((IntKind.wrap .i64 (x9 + (x5.length : Int))) + 1)) (b := IntKind.wrap .i64 ((x5.length : Int) + 1)) (m := x10) (by kernel_rfl) (by kernel_rfl) hx10) (RunR.all (by kernel_rfl)))))))))))) ?_
  replace h := bindS h
  obtain ⟨x11, hx11, h⟩ := h
  replace h := bindS h
  obtain ⟨x12, hx12, h⟩ := h
  refine W.seqOps (RunR.stat 2 (by kernel_rfl) (RunR.dyn (Step.slcL (f := T_api_Token.pv) (l := x5) (m := x11) (a := 0) (b := x10) (by kernel_rfl) (Bd.none rfl) (Bd.some (k := .i64) (by kernel_rfl)) hx11 (fun _ => rfl)) (RunR.cons (tab_cons (on := true) (fun _ => lex_Join_ok hx12) tab_nil) (Step.call0 (g := 16) (caps := []) (v := .tup [.pv (.str x12.1), .pv (.int .i64 x12.2)]) (by kernel_rfl) (by kernel_rfl) (by kernel_rfl) (tab_hit (by kernel_rfl)) (by kernel_rfl)) (RunR.all (by kernel_rfl))))) ?_
  replace h := bindS h
  obtain ⟨x13, hx13, h⟩ := h
  replace h := bindS h
  obtain ⟨x14, hx14, h⟩ := h
  refine W.seqOps (RunR.stat 2 (by kernel_rfl) (RunR.dyn (Step.slcL (f := T_api_Token.pv) (l := x5) (m := x13) (a := x10) (b := (x5.length : Int)) (by kernel_rfl) (Bd.some (k := .i64) (by kernel_rfl)) (Bd.none rfl) hx13 (fun _ => rfl)) (RunR.cons (tab_cons (on := true) (fun _ => lex_Join_ok hx14) tab_nil) (Step.call0 (g := 16) (caps := []) (v := .tup [.pv (.str x14.1), .pv (.int .i64 x14.2)]) (by kernel_rfl) (by kernel_rfl) (by kernel_rfl) (tab_hit (by kernel_rfl)) (by kernel_rfl)) (RunR.all (by kernel_rfl))))) ?_
  refine W.seqOps (RunR.all (by kernel_rfl)) ?_
  refine W.assoc ?_
  replace h := bindS h
  obtain ⟨x15, hx15, h⟩ := h
  refine W.seqOps (RunR.stat 2 (by kernel_rfl) (RunR.dyn (Step.lenT (f := (eInt .u8)) (l := some3) (by kernel_rfl)) (RunR.stat 1 (by kernel_rfl) (RunR.dyn (Step.slcL (f := (eInt .u8)) (l := some3) (m := x15) (a := 0) (b := (if 10 < (some3.length : Int) then 10 else (some3.length : Int))) (by kernel_rfl) (Bd.none rfl) (Bd.some (k := .i64) (by kernel_rfl)) hx15 (fun _ => rfl)) (RunR.dyn (Step.lenT (f := (eInt .u8)) (l := x15) (by kernel_rfl)) (RunR.all (by kernel_rfl))))))) ?_
  replace h := bindS h
  obtain ⟨j16, hj16, h⟩ := h
  refine W.join (j := j16) (fun p σ => σ.tidy [] [(0, false), (3, false), (11, false), (12, false), (13, false), (14, false), (15, false)] [] [] [] = ⟨[(0, .pv (.slice (List.map T_api_Token.pv x5))), (3, .pv (.str x6)), (11, .pv (.str x12.1)), (12, .pv (.int .i64 x12.2)), (13, .pv (.str x14.1)), (14, .pv (.int .i64 x14.2)), (15, .pv (.str p))], []⟩) ?_ (fun σj16 hsj16 => ?_)
  ·refine W.blockLoop (fun q σ => ((σ.forget [0, 3, 11, 12, 13, 14, 15, 73, 74, 75]).killAll []).tidy [] [(0, false), (3, false), (11, false), (12, false), (13, false), (14, false), (15, false), (73, false), (74, false), (75, false)] [] [] [] = ⟨[(0, .pv (.slice (List.map T_api_Token.pv x5))), (3, .pv (.str x6)), (11, .pv (.str x12.1)), (12, .pv (.int .i64 x12.2)), (13, .pv (.str x14.1)), (14, .pv (.int .i64 x14.2)), (15, .pv (.str q.1)), (73, .pv (.slice (List.map (eInt .u8) x15))), (74, .pv (.int .i64 (x15.length : Int))), (75, .pv (.int .i64 q.2))], []⟩) hj16 ?_ ?_
   ·show _ = _
    kernel_rfl
   ·intro q σj16 oj16 hJj16 h
    obtain ⟨between17, x18⟩ := q
    refine W.keep hJj16 ?_
    refine W.seqOps (RunR.all (by kernel_rfl)) ?_
    refine W.seqCond (t := decide (x18 < (x15.length : Int))) (by kernel_rfl) h (fun hc h' => ?_) (fun hc h' => ?_)
    ·replace h := h'
     refine W.seqSkip ?_
     refine W.seqPass ?_
     refine W.assoc ?_
     replace h := bindS h
     obtain ⟨x19, hx19, h⟩ := h
     refine W.seqOps (RunR.dyn (Step.idxT (f := (eInt .u8)) (l := x15) (n := x18) (e := x19) (k := .i64) (by kernel_rfl) (by kernel_rfl) hx19 (by kernel_rfl)) (RunR.all (by kernel_rfl))) ?_
     replace h := bindS h
     obtain ⟨x20, hx20, h⟩ := h
     replace h := bindS h
     obtain ⟨x21, hx21, h⟩ := h
     refine W.seqOps (RunR.stat 3 (by kernel_rfl) (RunR.dyn (Step.sidx (s := [32, 9, 10]) (n := Int.tmod x19 3) (m := x20) (k := .u8) (by kernel_rfl) (by kernel_rfl) hx20) (RunR.stat 1 (by kernel_rfl) (RunR.dyn (Step.b2sT (l := [x20]) (by kernel_rfl)) (RunR.dyn (Step.cat (a := between17) (b := (List.map (fun n => UInt8.ofNat (Int.toNat n)) [x20])) (m := x21) (by kernel_rfl) (by kernel_rfl) hx21) (RunR.all (by kernel_rfl))))))) ?_
     refine W.ops (RunR.all (by kernel_rfl)) ?_
     cases h
     exact (outw_in (by (show _ = _); kernel_rfl))
    ·replace h := h'
     cases h
     exact W.seqExit ((outw_out exit_ne (bnorm_x (by (show _ = _); kernel_rfl))))
  ·refine W.seqKeep hsj16 ?_
   refine W.seqOps (RunR.all (by kernel_rfl)) ?_
   refine W.assoc ?_
   refine W.seqOps (RunR.all (by kernel_rfl)) ?_
   replace h := bindS h
   obtain ⟨j23, hj23, h⟩ := h
   refine W.join (j := j23) (fun p σ => σ.tidy [] [(0, false), (11, false), (12, false), (13, false), (14, false), (15, false), (18, false)] [] [] [] = ⟨[(0, .pv (.slice (List.map T_api_Token.pv x5))), (11, .pv (.str x12.1)), (12, .pv (.int .i64 x12.2)), (13, .pv (.str x14.1)), (14, .pv (.int .i64 x14.2)), (15, .pv (.str j16)), (18, .pv (.str p))], []⟩) ?_ (fun σj23 hsj23 => ?_)
   ·refine W.blockLoop (fun q σ => ((σ.forget [0, 3, 11, 12, 13, 14, 15, 18, 88, 89]).killAll []).tidy [] [(0, false), (3, false), (11, false), (12, false), (13, false), (14, false), (15, false), (18, false), (88, false), (89, false)] [] [] [] = ⟨[(0, .pv (.slice (List.map T_api_Token.pv x5))), (3, .pv (.str x6)), (11, .pv (.str x12.1)), (12, .pv (.int .i64 x12.2)), (13, .pv (.str x14.1)), (14, .pv (.int .i64 x14.2)), (15, .pv (.str j16)), (18, .pv (.str q.1)), (88, .pv (.int .i64 (x6.length : Int))), (89, .pv (.int .i64 q.2))], []⟩) hj23 ?_ ?_
    ·show _ = _
     kernel_rfl
    ·intro q σj23 oj23 hJj23 h
     obtain ⟨line24, x25⟩ := q
     refine W.keep hJj23 ?_
     refine W.seqOps (RunR.all (by kernel_rfl)) ?_
     refine W.seqCond (t := decide (x25 < (x6.length : Int))) (by kernel_rfl) h (fun hc h' => ?_) (fun hc h' => ?_)
     ·replace h := h'
      refine W.seqSkip ?_
      refine W.seqPass ?_
      refine W.assoc ?_
      refine W.seqOps (RunR.all (by kernel_rfl)) ?_
      refine W.assoc ?_
      replace h := bindS h
      obtain ⟨x26, hx26, h⟩ := h
      refine W.seqOps (RunR.stat 2 (by kernel_rfl) (RunR.dyn (Step.sidx (s := x6) (n := x25) (m := x26) (k := .i64) (by kernel_rfl) (by kernel_rfl) hx26) (RunR.all (by kernel_rfl)))) ?_
      replace h := bindS h
      obtain ⟨j27, hj27, h⟩ := h
      refine W.join (j := j27) (fun p σ => σ.tidy [] [(0, false), (3, false), (11, false), (12, false), (13, false), (14, false), (15, false), (18, false), (88, false), (89, false)] [] [] [] = ⟨[(0, .pv (.slice (List.map T_api_Token.pv x5))), (3, .pv (.str x6)), (11, .pv (.str x12.1)), (12, .pv (.int .i64 x12.2)), (13, .pv (.str x14.1)), (14, .pv (.int .i64 x14.2)), (15, .pv (.str j16)), (18, .pv (.str p)), (88, .pv (.int .i64 (x6.length : Int))), (89, .pv (.int .i64 x25))], []⟩) ?_ (fun σj27 hsj27 => ?_)
      ·replace h := hj27
       refine W.condI (t := (x26 != 10)) (by kernel_rfl) h (fun hc h' => ?_) (fun hc h' => ?_)
       ·replace h := h'
        replace h := bindS h
        obtain ⟨x28, hx28, h⟩ := h
        replace h := bindS h
        obtain ⟨x29, hx29, h⟩ := h
        refine W.ops (RunR.stat 5 (by kernel_rfl) (RunR.dyn (Step.slcS (s := x6) (m := x28) (a := x25) (b := IntKind.wrap .i64 (x25 + 1)) (by kernel_rfl) (Bd.some (k := .i64) (by kernel_rfl)) (Bd.some (k := .i64) (by kernel_rfl)) hx28) (RunR.dyn (Step.cat (a := line24) (b := x28) (m := x29) (by kernel_rfl) (by kernel_rfl) hx29) (RunR.all (by kernel_rfl))))) ?_
        cases h
        exact (normw (by (show _ = _); kernel_rfl))
       ·replace h := h'
        cases h
        exact W.skip ((normw (by (show _ = _); kernel_rfl)))
      ·refine W.keep hsj27 ?_
       refine W.ops (RunR.all (by kernel_rfl)) ?_
       cases h
       exact (outw_in (by (show _ = _); kernel_rfl))
     ·replace h := h'
      cases h
      exact W.seqExit ((outw_out exit_ne (bnorm_x (by (show _ = _); kernel_rfl))))
   ·refine W.seqKeep hsj23 ?_
    replace h := bindS h
    obtain ⟨x32, hx32, h⟩ := h
    replace h := bindS h
    obtain ⟨x33, hx33, h⟩ := h
    replace h := bindS h
    obtain ⟨x34, hx34, h⟩ := h
    replace h := bindS h
    obtain ⟨x35, hx35, h⟩ := h
    replace h := bindS h
    obtain ⟨x36, hx36, h⟩ := h
    replace h := bindS h
    obtain ⟨x37, hx37, h⟩ := h
    refine W.seqOps (RunR.stat 2 (by kernel_rfl) (RunR.dyn (Step.cat (a := x12.1) (b := j16) (m := x32) (by kernel_rfl) (by kernel_rfl) hx32) (RunR.dyn (Step.cat (a := x32) (b := [35]) (m := x33) (by kernel_rfl) (by kernel_rfl) hx33) (RunR.stat 1 (by kernel_rfl) (RunR.dyn (Step.cat (a := x33) (b := j23) (m := x34) (by kernel_rfl) (by kernel_rfl) hx34) (RunR.dyn (Step.cat (a := x34) (b := [10]) (m := x35) (by kernel_rfl) (by kernel_rfl) hx35) (RunR.stat 1 (by kernel_rfl) (RunR.dyn (Step.cat (a := x35) (b := x14.1) (m := x36) (by kernel_rfl) (by kernel_rfl) hx36) (RunR.cons (tab_cons (on := true) (fun _ => lex_All_ok hx37) tab_nil) (Step.call0 (g := 8) (caps := []) (v := .tup [.pv (.slice (List.map T_api_Token.pv x37.1)), .pv (.int .i64 x37.2.1), .pv (.int .i64 x37.2.2)]) (by kernel_rfl) (by kernel_rfl) (by kernel_rfl) (tab_hit (by kernel_rfl)) (by kernel_rfl)) (RunR.all (by kernel_rfl))))))))))) ?_
    replace h := bindS h
    obtain ⟨x38, hx38, h⟩ := h
    replace h := bindS h
    obtain ⟨c39, hc39, h⟩ := h
    replace h := bindS h
    obtain ⟨c40, hc40, h⟩ := h
    replace h := bindS h
    obtain ⟨c41, hc41, h⟩ := h
    replace h := bindS h
    obtain ⟨c42, hc42, h⟩ := h
    replace h := bindS h
    obtain ⟨x43, hx43, h⟩ := h
    refine W.seqOps (RunR.cons (tab_cons (on := true) (fun _ => cashbooklaw14_alive_ok hx38) tab_nil) (Step.call0 (g := 12) (caps := []) (v := .pv (.bool x38)) (by kernel_rfl) (by kernel_rfl) (by kernel_rfl) (tab_hit (by kernel_rfl)) (by kernel_rfl)) (RunR.stat 1 (by kernel_rfl) (RunR.puts 3 [(122, .pv (.bool (x38 && (x12.2 == 0)))), (121, (bif x38 then (.pv (.bool (x12.2 == 0))) else (.tup []))), (120, (bif x38 then (.pv (.int .i64 x12.2)) else (.tup [])))] (by cases x38 <;> kernel_rfl) (RunR.dyn (Step.name (f := eBool) (e := (x38 && (x12.2 == 0))) (c := c39) (by kernel_rfl) hc39) (RunR.puts 3 [(126, .pv (.bool (c39 && (x14.2 == 0)))), (125, (bif c39 then (.pv (.bool (x14.2 == 0))) else (.tup []))), (124, (bif c39 then (.pv (.int .i64 x14.2)) else (.tup [])))] (by cases c39 <;> kernel_rfl) (RunR.dyn (Step.name (f := eBool) (e := (c39 && (x14.2 == 0))) (c := c40) (by kernel_rfl) hc40) (RunR.puts 3 [(130, .pv (.bool (c40 && (x37.2.2 == 0)))), (129, (bif c40 then (.pv (.bool (x37.2.2 == 0))) else (.tup []))), (128, (bif c40 then (.pv (.int .i64 x37.2.2)) else (.tup [])))] (by cases c40 <;> kernel_rfl) (RunR.dyn (Step.name (f := eBool) (e := (c40 && (x37.2.2 == 0))) (c := c41) (by kernel_rfl) hc41) (RunR.puts 3 [(134, .pv (.bool (c41 && (x37.2.1 == 0)))), (133, (bif c41 then (.pv (.bool (x37.2.1 == 0))) else (.tup []))), (132, (bif c41 then (.pv (.int .i64 x37.2.1)) else (.tup [])))] (by cases c41 <;> kernel_rfl) (RunR.dyn (Step.name (f := eBool) (e := (c41 && (x37.2.1 == 0))) (c := c42) (by kernel_rfl) hc42) (RunR.puts 2 [(137, (bif c42 then (.pv (.slice (List.map T_api_Token.pv x37.1))) else (.tup []))), (136, (bif c42 then (.pv (.slice (List.map T_api_Token.pv x5))) else (.tup [])))] (by cases c42 <;> kernel_rfl) (RunR.cons (tab_cons (on := c42) (fun hg => cashbookref14_Like_ok (gdO_at hg hx43)) tab_nil) (Step.gdG c42 (by kernel_rfl) (by
       cases c42
       ·exact .inl ⟨by kernel_rfl, by kernel_rfl⟩
       ·exact .inr ⟨by kernel_rfl, by kernel_rfl, Step.call0 (g := 19) (caps := []) (v := .pv (.bool x43)) (by kernel_rfl) (by kernel_rfl) (by kernel_rfl) (tab_hit (by kernel_rfl)) (by kernel_rfl)⟩)) (RunR.puts 1 [(139, .pv (.bool (c42 && x43)))] (by cases c42 <;> kernel_rfl) (RunR.all (by kernel_rfl))))))))))))))) ?_
    refine W.keep rfl ?_
    cases h
    exact W.ret ((fin_ret (by kernel_rfl)))
end Go.Av.G
end
