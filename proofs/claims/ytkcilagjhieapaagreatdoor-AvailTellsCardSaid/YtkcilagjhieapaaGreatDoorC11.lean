import Derived.WalkKit
import Derived.Deep.LoopGhost
import Derived.Lib.Walk
import Derived.Lib.SliceRun
import Derived.Test.YtkcilagjhieapaaGreatDoorC10
section
set_option linter.unusedVariables false
set_option linter.unusedSimpArgs false
namespace Go.Av.G
open Go Go.Av Go.Proofs Go.Shelf Go.RowKit Go.Lib
theorem hm : Tryz.prog.follows .mixedOrders = true := by kernel_rfl
theorem after_of_below {w w' : World} {ok : Nat → Prop} {γ δ : Nat → Blk} {x : SV} {v : Value} (hb : Below w.heap.size w w') (hv : SLies w' (okB ⟨w, [], γ, 0, ok, []⟩ (resβ γ δ) (resLk [] []) w') (resβ γ δ) (resLk [] []) x v) : After ⟨w, [], γ, 0, ok, []⟩ w' ⟨x, [], []⟩ v δ := by
 have no : ∀ k o, resLk [] [] k = some o → False := by intro k o h; cases k <;> simp [resLk] at h
 exact ⟨hb.size, fun b hb' _ => hb.block b hb', fun k k' o o' b h => (no _ _ h).elim, fun k o b h => (no _ _ h).elim, rfl, fun i o h => (no _ _ h).elim, fun k o h => (no _ _ h).elim, hv, ⟨hb.os, hb.tape, hb.output⟩⟩
noncomputable def strings_ContainsFunc (f : Int → Option Bool) (s : List UInt8) : Option Bool :=
 open Classical in if h : ∃ p : Nat → Bool, ∀ x : Nat, f x = some (p x) then some (decide (0 ≤ Lib.idxFunc h.choose true ⟨s.toArray⟩)) else none
theorem strings_ContainsFunc_eq {f : Int → Option Bool} {s : List UInt8} (p : Nat → Bool) (hp : ∀ x : Nat, f x = some (p x)) : strings_ContainsFunc f s = some (decide (0 ≤ Lib.idxFunc p true ⟨s.toArray⟩)) := by
 unfold strings_ContainsFunc
 have h : ∃ p : Nat → Bool, ∀ x : Nat, f x = some (p x) := ⟨p, hp⟩
 rw [dif_pos h]
 have e : h.choose = p := funext fun x => by
  have := h.choose_spec x
  rw [hp x] at this
  exact (Option.some.inj this).symm
 rw [e]
theorem pred_of {g : FuncId} {f : Int → Option Bool} (hf : ∀ x r, f x = some r → Contract Tryz.prog g [.pv (.int .i32 x)] [] ⟨.pv (.bool r), [], []⟩) {p : Nat → Bool} (hp : ∀ x : Nat, f x = some (p x)) (w : World) {ok : Nat → Prop} (hok : ∀ b, ok b → b < w.heap.size) (hG : GOK w ok) : PredGrows Tryz.prog g #[] p w := by
 intro W x _ hgr
 refine ((hf x _ (hp x)).2 W [encR x] (fun _ => ⟨none, 0⟩) ok (fun b hb => ⟨Nat.lt_of_lt_of_le (hok b hb) hgr.size, by simp⟩) (gok_keep hG fun b hb hlt => ⟨hgr.block b hlt, hb⟩) (by simp) (by simp) rfl ?_).mono ?_
 ·intro j x' v hx hv
  cases j with
  | zero => simp at hx hv; subst hx; subst hv; exact .pv _ _ (.int _ _)
  | succ j => simp at hx
 ·rintro e w' ⟨v, δ, rfl, ha⟩
  have hv := lies_bool (slies_pv ha.val)
  subst hv
  exact ⟨rfl, ha.quiet.os, ha.quiet.tape, ha.quiet.out, ha.size, fun k hk => ha.frame k hk (fun ⟨i, hi, _⟩ => by cases hi)⟩
theorem strings_ContainsFunc120_ok {g : FuncId} {f : Int → Option Bool} {s : List UInt8} {r : Bool} (hf : ∀ x r, f x = some r → Contract Tryz.prog g [.pv (.int .i32 x)] [] ⟨.pv (.bool r), [], []⟩) (h : strings_ContainsFunc f s = some r) : Contract Tryz.prog 120 [.pv (.str s), .pv (.fn g)] [] ⟨.pv (.bool r), [], []⟩ := by
 unfold strings_ContainsFunc at h
 split at h
 ·rename_i hx
  simp only [Option.some.injEq] at h
  have hp := hx.choose_spec
  refine ⟨⟨Tryz.f120, Tryz.func120, by kernel_rfl, by kernel_rfl⟩, fun w vs γ ok h1 hG h2 h3 h4 h5 => ?_⟩
  match vs, h4 with
  | [v1, v2], _ =>
   have e1 := lies_str (slies_pv (h5 0 _ _ rfl rfl))
   have e2 : v2 = .func (.func g) #[] #[] := by
    have := slies_pv (h5 1 _ _ rfl rfl)
    cases this; rfl
   subst e1; subst e2
   obtain ⟨fn, hfn, hne, hbd⟩ := (hf 0 _ (hp 0)).1
   obtain ⟨c, hc⟩ : ∃ c, fn.body = some c := by
    cases hb : fn.body with
    | none => rw [hb] at hbd; cases hbd
    | some c => exact ⟨c, rfl⟩
   refine (Any.strings_ContainsFunc_grows Tryz.laysGw17 g #[] (enters_of hfn hne hc) hx.choose ⟨s.toArray⟩ w (pred_of hf hp w (fun b hb => (h1 b hb).1) hG)).mono ?_
   rintro e w' ⟨rfl, hb⟩
   exact ⟨_, fun _ => ⟨none, 0⟩, rfl, after_of_below hb (.pv _ _ (by rw [← h]; exact .bool _))⟩
 ·cases h
section
variable {P : Program} {ρ : Ren}
end
end Go.Av.G
end
