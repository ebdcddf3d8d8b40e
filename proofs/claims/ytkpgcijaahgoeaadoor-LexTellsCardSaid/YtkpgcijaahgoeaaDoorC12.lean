import Derived.SizedLaws
import Derived.Test.YtkpgcijaahgoeaaDoorC11
section
set_option linter.unusedVariables false
namespace Go.Av
open Go Go.ChangeShapes Go.WideShapes Go.ChangeAt Go.RowKit
section
variable {H : Type} {enc : TypeId × Value → H} {P : Program}
theorem law_at_str {f : FuncId} {fn : Func} {s : ChangeSpec} {apart fresh handsOn again : Bool} {n : Nat} {tb : TypeId} (τs : List TT)
  (hl : laidOutB P = true) (hp : fn.params.toList.all (fun t => P.readableRec t && decide (t < P.types.size)) = true) (hr : fn.resultTypes = #[tb]) (hb : P.underlying tb = some .bool) (hv : s.vars = [])
  (ht : fn.params.toList.length = τs.length) (hrd : (fn.params.toList.zip τs).all (fun p => reads P n p.1 p.2) = true) (hst : (fn.params.toList.head?.map P.underlying) = some (some .string))
  (hs : ∀ ds : List (DataW H), ds.length = fn.params.toList.length → s.fn H ds = { results := [.lit (.bool true)], args := ds })
  (hc : ∀ xs : List PV, AllOf τs xs → (∀ t, xs.head? = some (.str t) → t.length ≤ reachBytes) → Contract P f (xs.map .pv) [] ⟨.pv (.bool true), [], []⟩) :
  ∀ (W : World) (base : Nat) (args : Array Value) (ds gs : List (DataW H)) (before : List MemPlace),
   (∀ (j : Nat) t v, fn.params[j]? = some t → args[j]? = some v → Value.okWide P W .any base t v) →
   DataW.Whole enc P fn.params.toList s.vars apart W args.toList ds gs before →
   (DataW.weightsEach P (fn.params.toList ++ s.plain.varTypes P) (ds ++ gs)).all (· ≤ reachBytes) = true →
   GOK W (· < W.heap.size) →
   Calls P f args W fun e W' => ∃ v, e = .returned v ∧ s.post enc P fn apart fresh handsOn again W args v W' := by
 intro W base args ds gs before hok hW hz hG
 have hW0 := hW
 obtain ⟨p, q, hA, hV, rfl, _, _⟩ := hW
 rw [hv] at hV
 obtain ⟨rfl, rfl⟩ := trodVars_none hV
 obtain ⟨hlen, xs, ho, hL⟩ := targs (n := n) (base := base) ht (by simpa using hrd) (fun j t v h1 h2 => hok j t v (by simpa using h1) (by simpa using h2)) hA
 have hs' : s.fn H (ds ++ []) = { results := [.lit (.bool true)], args := ds } := by rw [List.append_nil]; exact hs ds hlen
 have hsz : ∀ t, xs.head? = some (.str t) → t.length ≤ reachBytes := by
  intro b hx
  generalize hps : fn.params.toList = ps at hA hz hst
  generalize hvs : args.toList = vs at hA hL
  cases ps with
  | nil => cases hst
  | cons t ts =>
   obtain ⟨v, vs', d, ds', p1, p2, rfl, rfl, _, ⟨m, hm⟩, _⟩ := trodAll_cons hA
   have hst : P.underlying t = some .string := by simpa using hst
   obtain ⟨b', hb', he, _⟩ := DataW.trod_string hst hm
   simp only [Prod.mk.injEq] at he
   have h0 := hL.2 0 (.str b) v (by rw [← List.head?_eq_getElem?]; exact hx) rfl
   have hb2 : b'.data.toList = b := by
    cases h0
    simp [Value.cells] at hb'
    rw [← hb']
   have := sized_string hz (j := 0) (t := t) (bytes := b'.data.toList) rfl (by rw [he.1]; rfl)
   rw [hb2] at this
   exact this
 refine (calls_true (hc xs ho hsz) hL hG).mono fun e W' ⟨he, hb'⟩ => ⟨_, he, ?_⟩
 exact post_true (P := P) hl (fun t ht => by have := List.all_eq_true.1 hp t ht; simpa using this) hr hb hv hW0 (by rw [hs']) (by rw [hs']) (by rw [hs']) hb'
end
end Go.Av
end
